/- Sat: the solver is made (made), walked. -/
import Derived.Test.YtkpppmldbhgcgaaScEtoScP
import Derived.Deep.Cut
set_option linter.unusedVariables false
set_option linter.unusedSimpArgs false
set_option autoImplicit false
set_option linter.unusedVariables false
set_option linter.unusedSimpArgs false
namespace Go.Proofs.Ytkpppmldbhgcgaa
open Go Go.Shelf Go.RowKit
/-- what the making leaves -/
def MadeOut (V : Nat) (w : World) (r : Bool × Sz) (e : Ending) (w' : World) : Prop :=
  ∃ b own rv, e = .returned (.tuple #[.pointer (some ⟨b, 0, none⟩), .bool r.1]) ∧ Sol (w.heap.size + 1) w' own rv r.2 ∧ rv .x = .pointer (some ⟨b, 0, none⟩) ∧ Frm (fun _ => none) own w w' ∧ WF (V + 1) r.2
theorem makeC_step {c : List Int} {r' : List (List Int)} {ok : Bool} {S : Sz} {r : Bool × Sz} (h : makeC (c :: r') ok S = some r) :
    ((normK c).any (fun x => (normK c).contains (-x)) = true → makeC r' ok S = some r) ∧
    ((normK c).any (fun x => (normK c).contains (-x)) = false → (normK c).length = 0 → makeC r' false S = some r) ∧
    ((normK c).any (fun x => (normK c).contains (-x)) = false → (normK c).length = 1 → (ok = true → ∃ a q, (normK c)[0]? = some a ∧ letO S a none = some q ∧ makeC r' q.1 q.2 = some r) ∧ (ok = false → makeC r' false S = some r)) ∧
    ((normK c).any (fun x => (normK c).contains (-x)) = false → (normK c).length ≠ 0 → (normK c).length ≠ 1 → fresh S = true ∧ ∃ S1, putO { S with cls := S.cls ++ [⟨normK c, false, false, 0⟩] } S.cls.length = some S1 ∧ makeC r' ok S1 = some r) := by
  unfold makeC at h
  refine ⟨fun h1 => ?_, fun h1 h2 => ?_, fun h1 h2 => ⟨fun h3 => ?_, fun h3 => ?_⟩, fun h1 h2 h3 => ?_⟩
  · rw [if_pos h1] at h; exact h
  · rw [if_neg (by rw [h1]; decide), if_pos h2] at h; exact h
  · rw [if_neg (by rw [h1]; decide), if_neg (by omega), if_pos h2, if_pos h3] at h
    obtain ⟨a, ha, h⟩ := Option.bind_eq_some_iff.1 h
    obtain ⟨q, hq, h⟩ := Option.bind_eq_some_iff.1 h
    exact ⟨a, q, ha, hq, h⟩
  · rw [if_neg (by rw [h1]; decide), if_neg (by omega), if_pos h2, if_neg (by rw [h3]; decide)] at h; exact h
  · rw [if_neg (by rw [h1]; decide), if_neg h2, if_neg h3] at h
    split at h
    · rename_i hf
      obtain ⟨S1, h4, h5⟩ := Option.bind_eq_some_iff.1 h
      exact ⟨hf, S1, h4, h5⟩
    · cases h
theorem normK_mem {c : List Int} {x : Int} (h : x ∈ normK c) : x ∈ c := ((normK_spec c).2 x).1 h
theorem normK_len (c : List Int) : (normK c).length ≤ c.length := Nat.le_trans (Lib.compact_length_le _) (Nat.le_of_eq (sortI_perm c).length_eq)
theorem Out.shape {lo B : Nat} {w : World} {own : Nat → Option Tg} {ov : Value} {out : List Int} (h : Out lo B w own ov out) : ∃ a c, ov = .slice a out.length c ∧ out.length ≤ c ∧ (0 < out.length → ∃ g, a = some ⟨g, 0, none⟩ ∧ own g = none) := by
  rcases h.row.2 with ⟨e, e2⟩ | ⟨g, cap, cur, e, _, _, hc, _⟩
  · exact ⟨none, 0, by rw [e, e2], by omega, fun h => by omega⟩
  · exact ⟨_, cap, e, hc, fun _ => ⟨g, rfl, h.fre g (by rw [e]; rfl)⟩⟩
set_option maxHeartbeats 4000000 in
set_option maxRecDepth 1000000 in
theorem made_walk (a : Option Addr) (n c : Nat) (cs : List D.Cl) (V : Nat) (w : World) (hn : cs.length = n) (hlen : n ≤ 1000000) (hl : ∀ j, j < n → (cs.getD j default).zs.length ≤ 1000000) (hb : ∀ j, j < n → ∀ x ∈ (cs.getD j default).zs, x.natAbs ≤ 1000000) (hz : D.Rows' w a cs) (hV : V ≤ 900000) {r : Bool × Sz} (hr : makeK V (cs.map D.Cl.zs) = some r) :
    Calls Try.prog 16 #[.agg #[.int .i64 (V : Int), .slice a n c]] w (MadeOut V w r) := by
  have hcast : ((2 * V + 2 : Nat) : Int) = 2 * (V : Int) + 2 := by omega
  have hcast1 : ((V + 1 : Nat) : Int) = (V : Int) + 1 := by omega
  have hw2 : IntKind.i64.wrap (2 * ((V : Int) + 1)) = 2 * (V : Int) + 2 := by
    have e : 2 * ((V : Int) + 1) = 2 * (V : Int) + 2 := by omega
    rw [e]
    simp [IntKind.wrap, IntKind.bits, IntKind.signed]
    omega
  have hmk55 := fun w => run_make_row' (P := Try.prog) 55 54 (.slice none 0 0) 24 Try.underlying55 info54m rfl .i64 .i64 (2 * V + 2) (by omega) (by omega) w
  have hmk56 := fun w => run_make_row' (P := Try.prog) 56 50 (.int .i8 0) 1 Try.underlying56 info50m rfl .i64 .i64 (V + 1) (by omega) (by omega) w
  have hmk40 := fun w => run_make_row' (P := Try.prog) 40 3 (.int .i64 0) 8 Try.underlying40 info3' rfl .i64 .i64 (V + 1) (by omega) (by omega) w
  have hmk54 := fun w => run_make_row' (P := Try.prog) 54 76 (.pointer none) 8 Try.underlying54 info76m rfl .i64 .i64 (V + 1) (by omega) (by omega) w
  have hmk51 := fun w => run_make_row' (P := Try.prog) 51 57 (.float .f64 0) 8 Try.underlying51 info57m rfl .i64 .i64 (V + 1) (by omega) (by omega) w
  have hmk27 := fun w => run_make_row' (P := Try.prog) 27 4 (.bool false) 1 Try.underlying27 info4m rfl .i64 .i64 (V + 1) (by omega) (by omega) w
  simp only [hcast] at hmk55
  simp only [hcast1] at hmk51 hmk56 hmk40 hmk54 hmk27
  go_enter Try.func16, Try.ntmps16
  go_wp2
  go_cut [5] from 19 (fun x wx => ∃ xb g5 g6 g7 g8 g9 g16, x = .pointer (some ⟨xb, 0, none⟩) ∧ Beg V (w.alloc (.cells #[.int .i64 (V : Int), .slice a n c] 24)) wx xb g5 g6 g7 g8 g9 g16)
  case first =>
    -- [R2
    refine wp_region_any (by kernel_rfl) ?_
    refine wpAny_take (i := 0) (v := _) rfl (by kernel_rfl) (by kernel_rfl) (by kernel_rfl) (fun _ _ _ h => h) (Or.inl ⟨by rfl, fun _ => rfl⟩) ?_
    refine wpAny_take (i := 2) (v := _) rfl (by kernel_rfl) (by kernel_rfl) (by kernel_rfl) (fun _ _ _ h => h) (Or.inl ⟨by rfl, fun _ => rfl⟩) ?_
    refine wpAny_take (i := 3) (v := .int .i64 (IntKind.i64.wrap (2 * ((V : Int) + 1)))) rfl (by kernel_rfl) (by kernel_rfl) (by kernel_rfl) (fun _ _ _ h => h) (Or.inl ⟨by rfl, fun _ => rfl⟩) ?_
    refine wpAny_take (i := 5) (v := _) rfl (by kernel_rfl) (by kernel_rfl) (by kernel_rfl) (fun _ _ _ h => h) (Or.inl ⟨by rfl, fun _ => rfl⟩) ?_
    refine wpAny_take (i := 7) (v := _) rfl (by kernel_rfl) (by kernel_rfl) (by kernel_rfl) (fun _ _ _ h => h) (Or.inl ⟨by rfl, fun _ => rfl⟩) ?_
    refine wpAny_take (i := 9) (v := _) rfl (by kernel_rfl) (by kernel_rfl) (by kernel_rfl) (fun _ _ _ h => h) (Or.inl ⟨by rfl, fun _ => rfl⟩) ?_
    refine wpAny_take (i := 11) (v := _) rfl (by kernel_rfl) (by kernel_rfl) (by kernel_rfl) (fun _ _ _ h => h) (Or.inl ⟨by rfl, fun _ => rfl⟩) ?_
    refine wpAny_take (i := 13) (v := _) rfl (by kernel_rfl) (by kernel_rfl) (by kernel_rfl) (fun _ _ _ h => h) (Or.inl ⟨by rfl, fun _ => rfl⟩) ?_
    rw [hw2]
    refine wpAny_act (a' := a2 V a n c w.heap.size undef undef undef undef undef undef undef) (by kernel_rfl) ?_
    refine wpAny_made (es := ens V) (f := 3) (show [23, 25, 27, 29, 31, 33, 20].Nodup by decide) (by kernel_rfl) ?_ ?_
    · have hev : ∀ (vs : List (Option Value)) (x : Act) (t : Nat), t ≠ 23 → t ≠ 25 → t ≠ 27 → t ≠ 29 → t ≠ 31 → t ≠ 33 → t ≠ 20 → (actOf (ens V) vs x).eval (.tmp t) = x.eval (.tmp t) := fun vs x t h1 h2 h3 h4 h5 h6 h7 => actOf_eval _ _ _ _ fun e he => by
        have : e.d ∈ [23, 25, 27, 29, 31, 33, 20] := List.mem_map_of_mem (f := En.d) he
        intro h
        rw [h] at this
        simp at this
        omega
      have hx : ∀ (vs : List (Option Value)) (t : Nat) (x : Value), t ≠ 23 → t ≠ 25 → t ≠ 27 → t ≠ 29 → t ≠ 31 → t ≠ 33 → t ≠ 20 → (a2 V a n c w.heap.size undef undef undef undef undef undef undef).eval (.tmp t) = x → (actOf (ens V) vs (a2 V a n c w.heap.size undef undef undef undef undef undef undef)).eval (.tmp t) = x := fun vs t x h1 h2 h3 h4 h5 h6 h7 h => (hev vs _ t h1 h2 h3 h4 h5 h6 h7).trans h
      intro j e he
      match j, he with
      | 0, he =>
        cases he
        refine ⟨_, rfl, rfl, rfl, fun vs w' hb => ?_⟩
        have h := hx vs 22 (.int .i64 (2 * (V : Int) + 2)) (by decide) (by decide) (by decide) (by decide) (by decide) (by decide) (by decide) rfl
        exact exec_make (T := 55) (l := .tmp 22) (c := .tmp 22) rfl h h (hmk55 w')
      | 1, he =>
        cases he
        refine ⟨_, rfl, rfl, rfl, fun vs w' hb => ?_⟩
        have h := hx vs 24 (.int .i64 ((V : Int) + 1)) (by decide) (by decide) (by decide) (by decide) (by decide) (by decide) (by decide) rfl
        exact exec_make (T := 56) (l := .tmp 24) (c := .tmp 24) rfl h h (hmk56 w')
      | 2, he =>
        cases he
        refine ⟨_, rfl, rfl, rfl, fun vs w' hb => ?_⟩
        have h := hx vs 26 (.int .i64 ((V : Int) + 1)) (by decide) (by decide) (by decide) (by decide) (by decide) (by decide) (by decide) rfl
        exact exec_make (T := 40) (l := .tmp 26) (c := .tmp 26) rfl h h (hmk40 w')
      | 3, he =>
        cases he
        refine ⟨_, rfl, rfl, rfl, fun vs w' hb => ?_⟩
        have h := hx vs 28 (.int .i64 ((V : Int) + 1)) (by decide) (by decide) (by decide) (by decide) (by decide) (by decide) (by decide) rfl
        exact exec_make (T := 54) (l := .tmp 28) (c := .tmp 28) rfl h h (hmk54 w')
      | 4, he =>
        cases he
        refine ⟨_, rfl, rfl, rfl, fun vs w' hb => ?_⟩
        have h := hx vs 30 (.int .i64 ((V : Int) + 1)) (by decide) (by decide) (by decide) (by decide) (by decide) (by decide) (by decide) rfl
        exact exec_make (T := 27) (l := .tmp 30) (c := .tmp 30) rfl h h (hmk27 w')
      | 5, he =>
        cases he
        refine ⟨_, rfl, rfl, rfl, fun vs w' hb => ?_⟩
        have h := hx vs 32 (.int .i64 ((V : Int) + 1)) (by decide) (by decide) (by decide) (by decide) (by decide) (by decide) (by decide) rfl
        exact exec_make (T := 27) (l := .tmp 32) (c := .tmp 32) rfl h h (hmk27 w')
      | 6, he =>
        cases he
        refine ⟨_, rfl, rfl, rfl, fun vs w' hb => ?_⟩
        have h := hx vs 19 (.pointer (some ⟨w.heap.size, 0, none⟩)) (by decide) (by decide) (by decide) (by decide) (by decide) (by decide) (by decide) rfl
        refine exec_load (l := .tmp 19) rfl h ?_
        refine (World.cell?_of_block (hb.block w.heap.size (by show w.heap.size < (w.heap.push _).size; simp))).trans ?_
        exact (cell_new ..).trans rfl
      | k + 7, he => simp [ens] at he
    · intro vs w1 hM
      obtain ⟨v0, v1, v2, v3, v4, v5, v6, rfl⟩ : ∃ v0 v1 v2 v3 v4 v5 v6, vs = [v0, v1, v2, v3, v4, v5, v6] := by
        have := hM.len
        match vs, this with
        | [v0, v1, v2, v3, v4, v5, v6], _ => exact ⟨_, _, _, _, _, _, _, rfl⟩
      obtain ⟨g5, rfl, l5, h5⟩ := hM.at_ 0 _ _ rfl rfl
      obtain ⟨g6, rfl, l6, h6⟩ := hM.at_ 1 _ _ rfl rfl
      obtain ⟨g7, rfl, l7, h7⟩ := hM.at_ 2 _ _ rfl rfl
      obtain ⟨g8, rfl, l8, h8⟩ := hM.at_ 3 _ _ rfl rfl
      obtain ⟨g9, rfl, l9, h9⟩ := hM.at_ 4 _ _ rfl rfl
      obtain ⟨g16, rfl, l16, h16⟩ := hM.at_ 5 _ _ rfl rfl
      have e6 : v6 = .int .i64 V := hM.at_ 6 _ _ rfl rfl
      subst e6
      refine wpAny_act (a' := a2 V a n c w.heap.size (.slice (some ⟨g5, 0, none⟩) (2 * V + 2) (2 * V + 2)) (.slice (some ⟨g6, 0, none⟩) (V + 1) (V + 1)) (.slice (some ⟨g7, 0, none⟩) (V + 1) (V + 1)) (.slice (some ⟨g8, 0, none⟩) (V + 1) (V + 1)) (.slice (some ⟨g9, 0, none⟩) (V + 1) (V + 1)) (.slice (some ⟨g16, 0, none⟩) (V + 1) (V + 1)) (.int .i64 V)) (by kernel_rfl) ?_
      refine wpAny_only (i := 15) (v := .agg (x0 V (.slice (some ⟨g5, 0, none⟩) (2 * V + 2) (2 * V + 2)) (.slice (some ⟨g6, 0, none⟩) (V + 1) (V + 1)) (.slice (some ⟨g7, 0, none⟩) (V + 1) (V + 1)) (.slice (some ⟨g8, 0, none⟩) (V + 1) (V + 1)) (.slice (some ⟨g9, 0, none⟩) (V + 1) (V + 1)) (.slice (some ⟨g16, 0, none⟩) (V + 1) (V + 1)) (.int .i64 V))) (w1 := w1) (by kernel_rfl) rfl rfl (by kernel_rfl) ?_
      refine wpAny_only (i := 16) (v := .pointer (some ⟨w1.heap.size, 0, none⟩)) (w1 := w1.alloc (.cells (x0 V (.slice (some ⟨g5, 0, none⟩) (2 * V + 2) (2 * V + 2)) (.slice (some ⟨g6, 0, none⟩) (V + 1) (V + 1)) (.slice (some ⟨g7, 0, none⟩) (V + 1) (V + 1)) (.slice (some ⟨g8, 0, none⟩) (V + 1) (V + 1)) (.slice (some ⟨g9, 0, none⟩) (V + 1) (V + 1)) (.slice (some ⟨g16, 0, none⟩) (V + 1) (V + 1)) (.int .i64 V)) 59)) (by kernel_rfl) rfl rfl (by kernel_rfl) ?_
      refine wpAny_only (i := 17) (v := .pointer (some ⟨w1.heap.size, 0, none⟩)) (w1 := w1.alloc (.cells (x0 V (.slice (some ⟨g5, 0, none⟩) (2 * V + 2) (2 * V + 2)) (.slice (some ⟨g6, 0, none⟩) (V + 1) (V + 1)) (.slice (some ⟨g7, 0, none⟩) (V + 1) (V + 1)) (.slice (some ⟨g8, 0, none⟩) (V + 1) (V + 1)) (.slice (some ⟨g9, 0, none⟩) (V + 1) (V + 1)) (.slice (some ⟨g16, 0, none⟩) (V + 1) (V + 1)) (.int .i64 V)) 59)) (by kernel_rfl) rfl rfl rfl ?_
      refine wpAny_act (a' := a3 V a n c w.heap.size w1.heap.size (.slice (some ⟨g5, 0, none⟩) (2 * V + 2) (2 * V + 2)) (.slice (some ⟨g6, 0, none⟩) (V + 1) (V + 1)) (.slice (some ⟨g7, 0, none⟩) (V + 1) (V + 1)) (.slice (some ⟨g8, 0, none⟩) (V + 1) (V + 1)) (.slice (some ⟨g9, 0, none⟩) (V + 1) (V + 1)) (.slice (some ⟨g16, 0, none⟩) (V + 1) (V + 1)) (.int .i64 V)) (by kernel_rfl) ?_
      refine wpAny_done (by kernel_rfl) ?_ _
      unfold a3
      have lt := fun (g : Nat) (o : Obj) (h : w1.heap[g]? = some o) => (Array.getElem?_eq_some_iff.1 h).1
      have t5 := (Array.getElem?_eq_some_iff.1 h5).1
      have t6 := (Array.getElem?_eq_some_iff.1 h6).1
      have t7 := (Array.getElem?_eq_some_iff.1 h7).1
      have t8 := (Array.getElem?_eq_some_iff.1 h8).1
      have t9 := (Array.getElem?_eq_some_iff.1 h9).1
      have t16 := (Array.getElem?_eq_some_iff.1 h16).1
      have hsz : w.heap.size ≤ w1.heap.size := Nat.le_trans (by show w.heap.size ≤ (w.heap.push _).size; simp) hM.bel.size
      have hB : Beg V (w.alloc (.cells #[.int .i64 (V : Int), .slice a n c] 24)) (w1.alloc (.cells (x0 V (.slice (some ⟨g5, 0, none⟩) (2 * V + 2) (2 * V + 2)) (.slice (some ⟨g6, 0, none⟩) (V + 1) (V + 1)) (.slice (some ⟨g7, 0, none⟩) (V + 1) (V + 1)) (.slice (some ⟨g8, 0, none⟩) (V + 1) (V + 1)) (.slice (some ⟨g9, 0, none⟩) (V + 1) (V + 1)) (.slice (some ⟨g16, 0, none⟩) (V + 1) (V + 1)) (.int .i64 V)) 59)) w1.heap.size g5 g6 g7 g8 g9 g16 := by
        have hne : ∀ (j k g g' m m' : Nat) (e e' : En), (ens V)[j]? = some e → (ens V)[k]? = some e' → e.rw_ ≠ none → e'.rw_ ≠ none → j ≠ k → ([Value.slice (some ⟨g5, 0, none⟩) (2 * V + 2) (2 * V + 2), .slice (some ⟨g6, 0, none⟩) (V + 1) (V + 1), .slice (some ⟨g7, 0, none⟩) (V + 1) (V + 1), .slice (some ⟨g8, 0, none⟩) (V + 1) (V + 1), .slice (some ⟨g9, 0, none⟩) (V + 1) (V + 1), .slice (some ⟨g16, 0, none⟩) (V + 1) (V + 1), .int .i64 V].map some)[j]? = some (some (.slice (some ⟨g, 0, none⟩) m m)) → ([Value.slice (some ⟨g5, 0, none⟩) (2 * V + 2) (2 * V + 2), .slice (some ⟨g6, 0, none⟩) (V + 1) (V + 1), .slice (some ⟨g7, 0, none⟩) (V + 1) (V + 1), .slice (some ⟨g8, 0, none⟩) (V + 1) (V + 1), .slice (some ⟨g9, 0, none⟩) (V + 1) (V + 1), .slice (some ⟨g16, 0, none⟩) (V + 1) (V + 1), .int .i64 V].map some)[k]? = some (some (.slice (some ⟨g', 0, none⟩) m' m')) → g ≠ g' := fun j k g g' m m' e e' h1 h2 h3 h4 h5 h6 h7 e3 =>
          hM.ne j k e e' _ _ h1 h2 h6 h7 h5 h3 h4 (by subst e3; rfl)
        have no : ∀ {p : Obj × Nat}, some p ≠ none := fun h => by cases h
        have := hne 0 1 g5 g6 _ _ _ _ rfl rfl no no (by decide) rfl rfl
        have := hne 0 2 g5 g7 _ _ _ _ rfl rfl no no (by decide) rfl rfl
        have := hne 0 3 g5 g8 _ _ _ _ rfl rfl no no (by decide) rfl rfl
        have := hne 0 4 g5 g9 _ _ _ _ rfl rfl no no (by decide) rfl rfl
        have := hne 0 5 g5 g16 _ _ _ _ rfl rfl no no (by decide) rfl rfl
        have := hne 1 2 g6 g7 _ _ _ _ rfl rfl no no (by decide) rfl rfl
        have := hne 1 3 g6 g8 _ _ _ _ rfl rfl no no (by decide) rfl rfl
        have := hne 1 4 g6 g9 _ _ _ _ rfl rfl no no (by decide) rfl rfl
        have := hne 1 5 g6 g16 _ _ _ _ rfl rfl no no (by decide) rfl rfl
        have := hne 2 3 g7 g8 _ _ _ _ rfl rfl no no (by decide) rfl rfl
        have := hne 2 4 g7 g9 _ _ _ _ rfl rfl no no (by decide) rfl rfl
        have := hne 2 5 g7 g16 _ _ _ _ rfl rfl no no (by decide) rfl rfl
        have := hne 3 4 g8 g9 _ _ _ _ rfl rfl no no (by decide) rfl rfl
        have := hne 3 5 g8 g16 _ _ _ _ rfl rfl no no (by decide) rfl rfl
        have := hne 4 5 g9 g16 _ _ _ _ rfl rfl no no (by decide) rfl rfl
        have hnd : [g5, g6, g7, g8, g9, g16].Nodup := by
          simp only [List.nodup_cons, List.mem_cons, List.not_mem_nil, or_false, not_or, List.nodup_nil, and_true, not_false_eq_true]
          omega
        refine ⟨?_, ?_, ?_, heap_new w1 _, (heap_old h5).1, (heap_old h6).1, (heap_old h7).1, (heap_old h8).1, (heap_old h9).1, (heap_old h16).1⟩
        · exact Below.trans (b := w1) (⟨hM.bel.os, hM.bel.tape, hM.bel.output, hM.bel.size, hM.bel.block⟩ : Below _ (w.alloc (.cells #[.int .i64 (V : Int), .slice a n c] 24)) w1) ((Below.refl _ w1).alloc hM.bel.size _)
        · refine List.nodup_cons.2 ⟨fun h => ?_, hnd⟩
          simp at h
          omega
        · intro b hb
          have e : (w1.alloc (.cells (x0 V (.slice (some ⟨g5, 0, none⟩) (2 * V + 2) (2 * V + 2)) (.slice (some ⟨g6, 0, none⟩) (V + 1) (V + 1)) (.slice (some ⟨g7, 0, none⟩) (V + 1) (V + 1)) (.slice (some ⟨g8, 0, none⟩) (V + 1) (V + 1)) (.slice (some ⟨g9, 0, none⟩) (V + 1) (V + 1)) (.slice (some ⟨g16, 0, none⟩) (V + 1) (V + 1)) (.int .i64 V)) 59)).heap.size = w1.heap.size + 1 := by show (w1.heap.push _).size = _; simp
          have hl : ∀ x, (Go.World.drew (w.alloc (.cells #[.int .i64 (V : Int), .slice a n c] 24))).heap.size ≤ x → (w.alloc (.cells #[.int .i64 (V : Int), .slice a n c] 24)).heap.size ≤ x := fun x h => h
          have hsz := hM.bel.size
          replace hsz : (w.alloc (.cells #[.int .i64 (V : Int), .slice a n c] 24)).heap.size ≤ w1.heap.size := hsz
          have := hl _ l5
          have := hl _ l6
          have := hl _ l7
          have := hl _ l8
          have := hl _ l9
          have := hl _ l16
          simp only [List.mem_cons, List.not_mem_nil, or_false] at hb
          omega
      go_wp2_with fail
      go_meet
      exact ⟨_, _, _, _, _, _, _, rfl, hB⟩
    -- R2]
  case rest =>
    obtain ⟨xb, g5, g6, g7, g8, g9, g16, rfl, B⟩ := hcut
    have c1 := block_cell B.hx 1
    have c2 := block_cell B.hx 2
    have k1 : wc.cell? ⟨xb, 1, none⟩ = some (.slice none 0 0) := c1.1.trans rfl
    have k2 : wc.frozen? ⟨xb, 1, none⟩ = false := c1.2
    have k3 : wc.cell? ⟨xb, 2, none⟩ = some (.slice none 0 0) := c2.1.trans rfl
    have k4 : wc.frozen? ⟨xb, 2, none⟩ = false := c2.2
    have hxl := (B.lt xb (by simp)).2
    clear c1 c2
    go_wp2
    go_cut [5] from 36 (fun x wx => x = .pointer (some ⟨xb, 0, none⟩) ∧ ∃ g1 g2, Beg2 V (w.alloc (.cells #[.int .i64 (V : Int), .slice a n c] 24)) wx xb g5 g6 g7 g8 g9 g16 g1 g2)
    case first =>
      -- [R3
      go_region_law (first | fail)
      all_goals (go_wp2_with fail; go_meet; first | exact ⟨rfl, _, _, B.two (.inl ⟨rfl, rfl, rfl, rfl⟩)⟩ | exact ⟨rfl, _, _, B.two (.inr ⟨rfl, rfl, rfl, rfl⟩)⟩)
      -- R3]
    case rest =>
      obtain ⟨rfl, g1, g2, B2⟩ := hcut
      obtain ⟨W1, hW1⟩ : ∃ W1, W1 = (w.alloc (.cells #[.int .i64 (V : Int), .slice a n c] 24)) := ⟨_, rfl⟩
      rw [← hW1] at B2
      have hS0 := B2.rep hV
      have hF0 : Frm (fun _ => none) (ownB xb g5 g6 g7 g8 g9 g16 g1 g2) W1 wc := Below.toFrm B2.bel fun g hg => by
        obtain ⟨t, ht⟩ := Option.ne_none_iff_exists'.1 hg
        exact (hS0.dom g t ht).1
      have hx0 : rvB V xb g5 g6 g7 g8 g9 g16 g1 g2 .x = .pointer (some ⟨xb, 0, none⟩) := rfl
      clear B B2
      generalize ownB xb g5 g6 g7 g8 g9 g16 g1 g2 = ow0 at hS0 hF0
      generalize rvB V xb g5 g6 g7 g8 g9 g16 g1 g2 = rv0 at hS0 hx0
      go_wp2
      go_loopw [6] (fun i wr => ∃ (k : Nat) (own : Nat → Option Tg) (rv : Tg → Value) (S : Sz), k ≤ V ∧ i = .int .i64 (k + 1 : Nat) ∧ madeV k (empty0 V (V + 1)) = some S ∧ Sol W1.heap.size wr own rv S ∧ rv .x = .pointer (some ⟨xb, 0, none⟩) ∧ Frm (fun _ => none) own W1 wr) (fun i _ => V + 1 - (intOf i).toNat)
      case atStart => exact ⟨0, _, _, _, Nat.zero_le _, rfl, rfl, hS0, hx0, hF0⟩
      case round =>

        obtain ⟨k, own, rv, S, hk, rfl, hmk, hS, hx, hF⟩ := hrel
        by_cases hlt : k < V
        · obtain ⟨S', e1, wf, hov, _⟩ := madeV_ok hV k hk
          rw [hmk] at e1
          cases e1
          have wf1 := pl_wf wf (k + 1) (-1)
          obtain ⟨S2, f1, _, _, _⟩ := madeV_ok hV (k + 1) (by omega)
          have f2 : hpushO { S with pl := S.pl.set (k + 1) (-1) } (k + 1) = some S2 := by
            unfold madeV at f1
            rw [hmk] at f1
            exact f1
          have f3 : upZ (pushZ { S with pl := S.pl.set (k + 1) (-1) } (k + 1)) S.ov.length = S2 := by
            unfold hpushO at f2
            split at f2
            · exact Option.some.inj f2
            · cases f2
          obtain ⟨gp, cp, H1, q1⟩ := hS.headN (T := .pl) (m := 1) (n := V + 1) hx rfl rfl (by show (S.pl.map _).length = V + 1; rw [List.length_map]; exact wf.ord.pl) (by omega)
          have c1 := H1.cell
          have l1 := H1.le
          obtain ⟨c2, c3⟩ := hS.hcell H1.val (map_get (f := vi) (list_get 0 (l := S.pl) (i := k + 1) (by rw [wf.ord.pl]; omega)))
          have s1 := hS.wr (T := .pl) (g := gp) (m := k + 1) (a := vi (-1)) (S' := { S with pl := S.pl.set (k + 1) (-1) }) (by rw [H1.val]; rfl) (by show _ < (S.pl.map _).length; rw [List.length_map, wf.ord.pl]; omega) (by rw [mem_pl_, List.map_set]; rfl) rfl hF
          rw [show conc rv (vi (-1)) = .int .i64 (-1) from rfl] at s1
          have hpw := hpush_walk s1.1 wf1.ord (k + 1) (by omega) (by show S.ov.length < V + 1; omega)
          rw [hx] at hpw
          have hpw2 := hpw.mono (R' := fun e w' => e = .returned (.tuple #[]) ∧ ∃ own' rv', Sol W1.heap.size w' own' rv' S2 ∧ rv' .x = .pointer (some ⟨xb, 0, none⟩) ∧ Frm (fun _ => none) own' W1 w') (by
            rintro e w' ⟨p1, own', v', p2, p3⟩
            rw [show ({ S with pl := S.pl.set (k + 1) (-1) } : Sz).ov.length = S.ov.length from rfl, f3] at p2
            exact ⟨p1, own', _, p2, (upd_other _ _ (by intro e; cases e)).trans hx, s1.2.trans p3⟩)
          have hkI : ((k + 1 : Nat) : Int) = (k : Int) + 1 := by omega
          have hltI : (k : Int) + 1 < (V : Int) + 1 := by omega
          have l1' : ((V + 1 : Nat) : Int) ≤ cp := by omega
          replace c2 : wr.cell? ⟨gp, k + 1, none⟩ = some (.int .i64 (S.pl.getD (k + 1) 0)) := c2
          have hG := Hid'.mk f1
          clear hpw s1 hS hF f1 f2 f3 hmk H1 wf wf1 q1
          simp only [hkI] at hpw2 ⊢
          go_wp2_with (go_at_call 24; refine hpw2.mono ?_; rintro e w2 ⟨p1, own', rv', p2, p3, p4⟩; rw [p1]; clear p1)
          exact ⟨⟨k + 1, own', rv', S2, hlt, by go_num, hG.h, p2, p3, p4⟩, by simp only [intOf]; omega⟩

        · have hkV : k = V := by omega
          subst hkV
          have hW1s : W1.heap.size = w.heap.size + 1 := by rw [hW1]; show (w.heap.push _).size = _; simp
          have hb1 := hF.toBelow
          have hbox : wr.cell? ⟨w.heap.size, 1, none⟩ = some (.slice a n c) := (hb1.cell (by show w.heap.size < W1.heap.size; omega)).trans (by rw [hW1]; exact (cell_new ..).trans rfl)
          have hzW : D.Rows' W1 a cs := by rw [hW1]; exact hz.below ((Below.refl _ w).alloc (Nat.le_refl _) _)
          have hwf : WF (k + 1) S := by
            obtain ⟨S', e1, wf, _⟩ := madeV_ok hV k (Nat.le_refl _)
            rw [hmk] at e1
            cases e1
            exact wf
          have hmc : makeC (cs.map D.Cl.zs) true S = some r := by
            unfold makeK at hr
            rw [hmk] at hr
            exact hr
          clear hmk hr
          have hlt' : ¬ ((k : Int) + 1 < (k : Int) + 1) := by omega
          go_wp2
          go_loopw [7, 70] (fun ok i wx => ∃ (j : Nat) (b : Bool) (own : Nat → Option Tg) (rv : Tg → Value) (S : Sz), j ≤ n ∧ i = .int .i64 j ∧ ok = .bool b ∧ makeC ((cs.drop j).map D.Cl.zs) b S = some r ∧ Sol W1.heap.size wx own rv S ∧ rv .x = .pointer (some ⟨xb, 0, none⟩) ∧ Frm (fun _ => none) own W1 wx ∧ WF (k + 1) S) (fun _ i _ => n - (intOf i).toNat)
          case atStart => exact ⟨0, true, _, _, _, Nat.zero_le _, rfl, rfl, hmc, hS, hx, hF, hwf⟩
          case round =>
            -- [B
            clear hS hx hF hb1 hbox hwf hmc hmk55 hmk51 hmk56 hmk40 hmk54 hmk27
            obtain ⟨j, b, own1, rv1, S1, hj, rfl, rfl, hmc, hS, hx, hF, hwf⟩ := hrel
            by_cases hjn : j < n
            · have hjI : (j : Int) < n := by omega
              have hb2 := hF.toBelow
              obtain ⟨rb, ro, rfl, hrb, hrc, hri⟩ := hzW.below hb2 j (by omega)
              obtain ⟨cl, hcl⟩ : ∃ cl, cs.getD j default = cl := ⟨_, rfl⟩
              have hdrop : (cs.drop j).map D.Cl.zs = cl.zs :: (cs.drop (j + 1)).map D.Cl.zs := by
                rw [List.drop_eq_getElem_cons (by omega : j < cs.length), List.map_cons, ← hcl, List.getD_eq_getElem?_getD, List.getElem?_eq_getElem (by omega), Option.getD_some]
              rw [hdrop] at hmc
              have hln := hl j hjn
              have hbn := hb j hjn
              rw [hcl] at hrc hri hln hbn
              obtain ⟨m1, m2, m3, m4⟩ := makeC_step hmc
              have hlo : W1.heap.size ≤ wr.heap.size := hF.size
              have hclone := clone_out hS hF hlo (c := cl.c) hri hln
              obtain ⟨l, hll⟩ : ∃ l, normK cl.zs = l := ⟨_, rfl⟩
              rw [hll] at m1 m2 m3 m4
              have hl1 : l.length ≤ 1000000 := by rw [← hll]; exact Nat.le_trans (normK_len _) hln
              have hlm : ∀ x ∈ l, x.natAbs ≤ 1000000 := fun x hx => hbn x (normK_mem (by rw [hll]; exact hx))
              have hls : l.Pairwise (· ≤ ·) := by rw [← hll]; exact (normK_spec cl.zs).1.imp fun h => Int.le_of_lt h
              have hcat : Calls Try.prog 25 #[.slice cl.a cl.zs.length cl.c] wr fun e w1 => ∃ v1, e = .returned v1 ∧ Calls Try.prog 26 #[v1] w1 fun e w2 => e = .returned (.tuple #[]) ∧ Calls Try.prog 27 #[v1] w2 fun e w3 => ∃ (B : Nat) (a3 : Option Addr) (c3 : Nat), e = .returned (.slice a3 l.length c3) ∧ l.length ≤ c3 ∧ Turned W1.heap.size B W1 (fun _ => none) own1 rv1 S1 (.slice a3 l.length c3) l w3 ∧ W1.heap.size ≤ B := by
                refine hclone.mono ?_
                rintro e w1 ⟨v1, rfl, o1, s1, f1, z1⟩
                refine ⟨v1, rfl, ?_⟩
                refine (sort_out s1 f1 hlo o1 hln).mono ?_
                rintro e w2 ⟨rfl, o2, s2, f2⟩
                refine ⟨rfl, ?_⟩
                refine (compact_out s2 f2 hlo o2 (by rw [(sortI_perm cl.zs).length_eq]; exact hln)).mono ?_
                rintro e w3 ⟨v3, rfl, o3, s3, f3⟩
                have hll' : Lib.compact (sortI cl.zs) = l := hll
                rw [hll'] at o3
                obtain ⟨a3, c3, e3, h3, _⟩ := o3.shape
                subst e3
                refine ⟨wr.heap.size, a3, c3, rfl, h3, ⟨o3, s3, f3⟩, hlo⟩
              clear hclone hS hF
              go_wp2_with (first | (go_at_call 25; refine hcat.mono ?_; rintro e w1 ⟨v1, p1, h26⟩; rw [p1]; clear p1) | (go_at_call 26; refine h26.mono ?_; rintro e w2 ⟨p1, h27⟩; rw [p1]; clear p1) | (go_at_call 27; refine h27.mono ?_; rintro e w3 ⟨B, a3, c3, p1, h3, ⟨o3, s3, f3⟩, hB1⟩; rw [p1]; clear p1))
              obtain ⟨L, hL⟩ : ∃ L, l.length = L := ⟨_, rfl⟩
              rw [hL] at h3 o3 m2 m3 m4 ⊢
              clear hcat h26 h27 hb2
              go_loopw [11, 82] (fun bo i wx => ∃ (m : Nat), m ≤ L ∧ i = .int .i64 m ∧ bo = .bool ((l.take m).any (fun x => l.contains (-x))) ∧ Turned W1.heap.size B W1 (fun _ => none) own1 rv1 S1 (.slice a3 L c3) l wx) (fun _ i _ => L - (intOf i).toNat)
              case atStart => exact ⟨0, Nat.zero_le _, rfl, rfl, o3, s3, f3⟩
              case round =>
                clear o3 s3 f3
                obtain ⟨m, hm, rfl, rfl, o3, s3, f3⟩ := hrel
                by_cases hmL : m < L
                · -- [C
                  obtain ⟨x, hxm⟩ : ∃ x, l[m]? = some x := ⟨_, List.getElem?_eq_getElem (by omega)⟩
                  obtain ⟨g3, c3', e3, _, _, _, _, hcc⟩ := o3.form (by intro e; rw [e] at hL; simp at hL; omega)
                  have ea : a3 = some ⟨g3, 0, none⟩ := by injection e3
                  subst ea
                  have c1 := (hcc m x hxm).1
                  have hxb := hlm x (List.mem_of_getElem? hxm)
                  have hxI : -1000000 ≤ x ∧ x ≤ 1000000 := by omega
                  have hmI : (m : Int) < L := by omega
                  have hcI : (L : Int) ≤ c3 := by omega
                  have hse := search_out o3 hl1 hls (-x)
                  have htk : (l.take (m + 1)).any (fun x => l.contains (-x)) = ((l.take m).any (fun x => l.contains (-x)) || l.contains (-x)) := by
                    rw [List.take_add_one, hxm]; simp
                  have hse2 : Calls Try.prog 28 #[.slice (some ⟨g3, 0, none⟩) L c3, .int .i64 (-x)] wr fun e w' => ∃ k : Int, e = .returned (.tuple #[.int .i64 k, .bool (l.contains (-x))]) ∧ Turned W1.heap.size B W1 (fun _ => none) own1 rv1 S1 (.slice (some ⟨g3, 0, none⟩) L c3) l w' := by
                    refine hse.mono ?_
                    rintro e w' ⟨k, p1, q, rfl⟩
                    exact ⟨k, p1, o3.drewN q, s3.drewN q, f3.drewN q⟩
                  clear hse o3 s3 f3 e3 hcc
                  obtain ⟨bb, hbb⟩ : ∃ bb, (l.take m).any (fun x => l.contains (-x)) = bb := ⟨_, rfl⟩
                  obtain ⟨bc, hbc⟩ : ∃ bc, l.contains (-x) = bc := ⟨_, rfl⟩
                  rw [hbc] at hse2
                  rw [hbb]
                  cases bb <;> (go_wp2_with (go_at_call 28; refine hse2.mono ?_; rintro e w4 ⟨kk, p1, p2⟩; rw [p1]; clear p1))
                  all_goals exact ⟨⟨m + 1, hmL, by go_num, by rw [htk, hbb, hbc]; first | rfl | simp, p2⟩, by simp only [intOf]; omega⟩
                  -- C]
                · have hmL2 : m = L := by omega
                  subst hmL2
                  have htk : l.take m = l := List.take_of_length_le (by omega)
                  rw [htk]
                  obtain ⟨bb, hbb⟩ : ∃ bb, l.any (fun x => l.contains (-x)) = bb := ⟨_, rfl⟩
                  rw [hbb] at m1 m2 m3 m4 ⊢
                  have hmm : ¬ ((m : Int) < m) := by omega
                  cases bb with
                  | true =>
                    have hm1 := m1 rfl
                    clear m1 m2 m3 m4
                    go_wp2
                    exact ⟨⟨j + 1, b, own1, rv1, S1, hjn, by go_num, rfl, hm1, s3, hx, f3, hwf⟩, by simp only [intOf]; omega⟩
                  | false =>
                    by_cases hm0 : m = 0
                    · subst hm0
                      have hm1 := m2 rfl rfl
                      clear m1 m2 m3 m4
                      go_wp2
                      exact ⟨⟨j + 1, false, own1, rv1, S1, hjn, by go_num, rfl, hm1, s3, hx, f3, hwf⟩, by simp only [intOf]; omega⟩
                    · obtain ⟨g3, c3', e3, _, hg3, hgn, _, hcc⟩ := o3.form (by intro e; rw [e] at hL; simp at hL; omega)
                      have ea : a3 = some ⟨g3, 0, none⟩ := by injection e3
                      subst ea
                      have hm0I : ((m : Int) == 0) = false := beq_false_of_ne (by omega)
                      by_cases hm1 : m = 1
                      · subst hm1
                        obtain ⟨k1, k2⟩ := m3 rfl rfl
                        cases b with
                        | false =>
                          have hm1 := k2 rfl
                          clear m1 m2 m3 m4 k1 k2
                          go_wp2
                          exact ⟨⟨j + 1, false, own1, rv1, S1, hjn, by go_num, rfl, hm1, s3, hx, f3, hwf⟩, by simp only [intOf]; omega⟩
                        | true =>
                          obtain ⟨x, q, hx0, hq, hm1⟩ := k1 rfl
                          have c1 := (hcc 0 x hx0).1
                          have hlet := let_walk s3 hwf (rn := none) (pa := none) rfl hq
                          rw [hx] at hlet
                          have hwf2 := (letO_facts hwf hq).1
                          have hlet2 : Calls Try.prog 29 #[.pointer (some ⟨xb, 0, none⟩), .int .i64 x, .pointer none] wr fun e w5 => e = .returned (.bool q.1) ∧ ∃ own5 rv5, Sol W1.heap.size w5 own5 rv5 q.2 ∧ rv5 .x = .pointer (some ⟨xb, 0, none⟩) ∧ Frm (fun _ => none) own5 W1 w5 := by
                            refine hlet.mono ?_
                            rintro e w5 ⟨p1, ow5, v5, p2, p3⟩
                            exact ⟨p1, ow5, _, p2, (upd_other _ _ (by intro e; cases e)).trans hx, f3.trans p3⟩
                          have hG := Hid'.mk (And.intro hm1 hwf2)
                          clear m1 m2 m3 m4 k1 k2 hlet hq o3 s3 f3 hm1 hwf2 hcc hx0 e3 hwf
                          go_wp2_with (go_at_call 29; refine hlet2.mono ?_; rintro e w5 ⟨p1, own5, rv5, p2, p3, p4⟩; rw [p1]; clear p1)
                          exact ⟨⟨j + 1, q.1, own5, rv5, q.2, hjn, by go_num, rfl, hG.h.1, p2, p3, p4, hG.h.2⟩, by simp only [intOf]; omega⟩
                      · obtain ⟨hfr, S2, hput, hm2⟩ := m4 rfl hm0 hm1
                        have hm1I : ((m : Int) == 1) = false := beq_false_of_ne (by omega)
                        have hnc := s3.newClause0 hfr f3 o3 hB1 f3.size
                        have hwf4 : WF (k + 1) { S1 with cls := S1.cls ++ [⟨l, false, false, 0⟩] } := ⟨⟨hwf.ord.big, hwf.ord.sc, hwf.ord.pl, hwf.ord.ov, hwf.ord.ovl⟩, hwf.vals, hwf.lev, hwf.rea, hwf.sav, hwf.seen, hwf.watch, hwf.bump, hwf.scp⟩
                        obtain ⟨own5, rv5, r5, r6, r7, r8, r9⟩ := hnc
                        have hput5 := put_walk r5 hwf4 hput
                        rw [r7.trans hx, r8] at hput5
                        have hput6 := hput5.mono (R' := fun e w5 => e = .returned (.tuple #[]) ∧ ∃ own5 rv5, Sol W1.heap.size w5 own5 rv5 S2 ∧ rv5 .x = .pointer (some ⟨xb, 0, none⟩) ∧ Frm (fun _ => none) own5 W1 w5) (by
                          rintro e w5 ⟨p1, ow5, v5, p2, p3, p4⟩
                          exact ⟨p1, ow5, _, p2, (p4 .x rfl).trans (r7.trans hx), r6.trans p3⟩)
                        have hG := Hid'.mk (And.intro hm2 (put_wf hwf4 hput).1)
                        clear m1 m2 m3 m4 hput5 hput o3 s3 f3 hm2 hwf4 hcc e3 hwf r5 r6 r7 r8 r9 hfr
                        go_wp2_with (go_at_call 30; refine hput6.mono ?_; rintro e w5 ⟨p1, own5, rv5, p2, p3, p4⟩; rw [p1]; clear p1)
                        exact ⟨⟨j + 1, b, own5, rv5, S2, hjn, by go_num, rfl, hG.h.1, p2, p3, p4, hG.h.2⟩, by simp only [intOf]; omega⟩
            · have hjn2 : j = n := by omega
              subst hjn2
              have hr2 : r = (b, S1) := by
                rw [List.drop_of_length_le (by omega)] at hmc
                exact (Option.some.inj hmc).symm
              subst hr2
              have hjj : ¬ ((j : Int) < j) := by omega
              go_wp2
              go_ret2
              have hs : w.heap.size ≤ W1.heap.size := by omega
              refine ⟨xb, own1, rv1, rfl, by rw [← hW1s]; exact hS, hx, ?_, hwf⟩
              have hb9 : ∀ q, q < w.heap.size → W1.heap[q]? = w.heap[q]? := fun q hq => by rw [hW1]; exact Below.heap_alloc _ _ _ hq
              exact ⟨hF.os.trans (by rw [hW1]; rfl), hF.tape.trans (by rw [hW1]; rfl), hF.output.trans (by rw [hW1]; rfl), Nat.le_trans hs hF.size, fun q hq => hF.lab q (by omega), fun q hq e => (hF.keep q (by omega) e).trans (hb9 q hq)⟩
            -- B]
end Go.Proofs.Ytkpppmldbhgcgaa

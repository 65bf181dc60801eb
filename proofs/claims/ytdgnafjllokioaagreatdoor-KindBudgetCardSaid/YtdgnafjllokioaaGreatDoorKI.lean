/- Kind: small functions that read, walked. -/
import Derived.Test.YtdgnafjllokioaaGreatDoorKH
import Derived.Laws.AppendOwnNone
set_option linter.unusedVariables false
set_option linter.unusedSimpArgs false
set_option autoImplicit false
set_option linter.unusedVariables false
set_option linter.unusedSimpArgs false
namespace Go.Proofs.YtdgnafjllokioaaGreatDoor
open Go.Proofs Go
open Go.RowKit Kb
theorem wpList_append_any {P : Program} {w : World} {ops : Array Oper} {rest : List Oper} {o : Oper} {a : Act} {Q : Exit → Act → World → Prop} (hgd : o.guard = none) (s x : Operand) (t : TypeId)
    (ho : o.op = .call { callee := .builtin .append, args := #[s, x], argTypes := #[t, t] })
    (base : Nat) (e : TypeId) (i : TypeInfo) (z : Value) (size bytes : Nat) (ht : P.underlying t = some (.slice e)) (hi : P.info? e = some i) (hz : i.zero = some z)
    (hsize : i.size = size) (hby : i.bytes = bytes) (hzs : z.cells.size = size) (hsz : 0 < size)
    (v : Value) (n : Nat) (xs : List Value) (hs : a.eval s = v) (hown : w.ownsRow base e size v n xs)
    (A : Option Addr) (m c : Nat) (news : List Value) (hx : a.eval x = .slice A m c) (hA : A = none → m = 0 ∧ c = 0) (hl : news.length = m * size) (hnews : ∀ ad, A = some ad → ∀ j u, news[j]? = some u → w.cell? (ad.add j) = some u) (h1 : ∀ u ∈ news, u.oneCell' = true)
    (h63 : n + m ≤ maxLen) (hbytes : (n + m) * bytes ≤ 140737488355328) (hbase : base ≤ w.heap.size)
    (h : ∀ v' w', w'.ownsRow base e size v' (n + m) (xs ++ news) → w.grownBy w' v.ownBlock → wpList P ops Q rest (a.put o.dst v') w') : wpList P ops Q (o :: rest) a w := by
  cases A with
  | none =>
    obtain ⟨rfl, rfl⟩ := hA rfl
    have hn : news = [] := List.eq_nil_of_length_eq_zero (by omega)
    subst hn
    refine wpList_append_own_none hgd s x t ho base e i size ht hi v n xs hs hown hx (h v w ?_ (World.grownBy.refl _ _))
    rw [List.append_nil]
    exact hown
  | some ad => exact wpList_append_own w hgd s x t ho base e i z size bytes ht hi hz hsize hby hzs hsz v n xs hs hown ad m c news hx hl (hnews ad rfl) h1 h63 hbytes hbase fun v' w' a b _ => h v' w' a b
set_option maxHeartbeats 4000000 in
set_option maxRecDepth 1000000 in
theorem same_walk (aa : Option Addr) (ac : Nat) (ba : Option Addr) (bc n : Nat) (us vs : List Bool) (w : World) (hn : us.length = n) (hm : vs.length = n) (hlen : n ≤ 100000) (ha : Bools w aa us) (hb : Bools w ba vs) :
    Calls Tryz.prog 20 #[.slice aa n ac, .slice ba n bc] w fun e w' => e = .returned (.bool (us == vs)) ∧ Below w.heap.size w w' := by
  go_enter Tryz.func20, Tryz.ntmps20
  go_wp2
  go_loopw [5] (fun i wr => ∃ k : Nat, k ≤ n ∧ i = .int .i64 k ∧ us.take k = vs.take k ∧ Below w.heap.size w wr) (fun i _ => n - (intOf i).toNat)
  case atStart => exact ⟨0, Nat.zero_le _, rfl, rfl, Below.refl _ _⟩
  case round =>
    obtain ⟨k, hk, rfl, he, hw⟩ := hrel
    by_cases hlt : k < n
    · have hltI : (k : Int) < n := by omega
      obtain ⟨xb, xo, rfl, hxb, x0⟩ := ha.below hw k (by omega)
      obtain ⟨zb, zo, rfl, hzb, z0⟩ := hb.below hw k (by omega)
      have e1 : us.take (k + 1) = us.take k ++ [us.getD k false] := by rw [List.take_add_one, List.getElem?_eq_getElem (by omega), getD_lt (by omega)]; rfl
      have e2 : vs.take (k + 1) = vs.take k ++ [vs.getD k false] := by rw [List.take_add_one, List.getElem?_eq_getElem (by omega), getD_lt (by omega)]; rfl
      obtain ⟨x, hx⟩ : ∃ x, us.getD k false = x := ⟨_, rfl⟩
      obtain ⟨z, hz⟩ : ∃ x, vs.getD k false = x := ⟨_, rfl⟩
      rw [hx] at x0 e1
      rw [hz] at z0 e2
      cases x <;> cases z
      · have hA : Aside (us.take (k + 1) = vs.take (k + 1) ∧ ∀ q, Below w.heap.size w (wr.drewN q)) := ⟨by rw [e1, e2, he], fun q => below_drewN hw q⟩
        clear he e1 e2 hx hz
        go_wp2
        go_quiet (fail)
        go_wp2
        go_roundw
        case rel => exact ⟨k + 1, hlt, by go_num, hA.out.1, hA.out.2 _⟩
        case measure => simp [intOf]; omega
      · have hA : Aside ((us == vs) = false ∧ ∀ q, Below w.heap.size w (wr.drewN q)) := by
          refine ⟨?_, fun q => below_drewN hw q⟩
          apply Bool.eq_false_iff.2
          intro h
          have h : us = vs := by simpa using h
          rw [h] at hx
          have := hx.symm.trans hz
          cases this
        clear he e1 e2 hx hz
        go_wp2
        go_quiet (fail)
        go_wp2
        go_ret
        exact ⟨by rw [hA.out.1]; rfl, hA.out.2 _⟩
      · have hA : Aside ((us == vs) = false ∧ ∀ q, Below w.heap.size w (wr.drewN q)) := by
          refine ⟨?_, fun q => below_drewN hw q⟩
          apply Bool.eq_false_iff.2
          intro h
          have h : us = vs := by simpa using h
          rw [h] at hx
          have := hx.symm.trans hz
          cases this
        clear he e1 e2 hx hz
        go_wp2
        go_quiet (fail)
        go_wp2
        go_ret
        exact ⟨by rw [hA.out.1]; rfl, hA.out.2 _⟩
      · have hA : Aside (us.take (k + 1) = vs.take (k + 1) ∧ ∀ q, Below w.heap.size w (wr.drewN q)) := ⟨by rw [e1, e2, he], fun q => below_drewN hw q⟩
        clear he e1 e2 hx hz
        go_wp2
        go_quiet (fail)
        go_wp2
        go_roundw
        case rel => exact ⟨k + 1, hlt, by go_num, hA.out.1, hA.out.2 _⟩
        case measure => simp [intOf]; omega
    · have hkn : k = n := by omega
      subst hkn
      have hlt' : ¬ (k : Int) < k := by omega
      have hA : Aside ((us == vs) = true) := by
        unfold Aside
        rw [List.take_of_length_le (by omega), List.take_of_length_le (by omega)] at he
        simpa using he
      clear he
      go_wp2
      go_ret
      exact ⟨by rw [hA.out]; rfl, hw⟩
def tinyB (gn nn im : Nat) : Bool := decide (nn ≤ 8 ∧ im ≤ 3 ∧ gn ≤ 400)
set_option maxHeartbeats 4000000 in
set_option maxRecDepth 1000000 in
theorem tiny_walk (d : SA) (gn nn xn im bn : Nat) (ok asm : Int) (w : World) :
    Calls Tryz.prog 5 #[.agg #[.slice d.ga gn d.gc, .slice d.na nn d.nc, .slice d.xa xn d.xc, .slice d.ia im d.ic, .slice d.ba bn d.bc, .int .i64 ok, .int .i64 asm]] w fun e w' => e = .returned (.bool (tinyB gn nn im)) ∧ Below w.heap.size w w' := by
  obtain ⟨W, hW⟩ : ∃ W, w.alloc (.cells #[.slice d.ga gn d.gc, .slice d.na nn d.nc, .slice d.xa xn d.xc, .slice d.ia im d.ic, .slice d.ba bn d.bc, .int .i64 ok, .int .i64 asm] 28) = W := ⟨_, rfl⟩
  have hb0 : Below w.heap.size w W := by rw [← hW]; exact (Below.refl w.heap.size w).alloc (Nat.le_refl _) _
  have c0 : W.cell? ⟨w.heap.size, 0, none⟩ = some (.slice d.ga gn d.gc) := by rw [← hW]; exact (cell_new ..).trans rfl
  have c1 : W.cell? ⟨w.heap.size, 1, none⟩ = some (.slice d.na nn d.nc) := by rw [← hW]; exact (cell_new ..).trans rfl
  have c3 : W.cell? ⟨w.heap.size, 3, none⟩ = some (.slice d.ia im d.ic) := by rw [← hW]; exact (cell_new ..).trans rfl
  go_enter Tryz.func5, Tryz.ntmps5
  by_cases h1 : nn ≤ 8
  · have h1I : (nn : Int) ≤ 8 := by omega
    by_cases h2 : im ≤ 3
    · have h2I : (im : Int) ≤ 3 := by omega
      by_cases h3 : gn ≤ 400
      · have h3I : (gn : Int) ≤ 400 := by omega
        have hR : Aside (tinyB gn nn im = true) := decide_eq_true ⟨h1, h2, h3⟩
        go_wp2
        go_ret
        exact ⟨by rw [hR.out]; rfl, hb0⟩
      · have h3I : ¬ (gn : Int) ≤ 400 := by omega
        have hR : Aside (tinyB gn nn im = false) := decide_eq_false fun h => h3 h.2.2
        go_wp2
        go_ret
        exact ⟨by rw [hR.out]; rfl, hb0⟩
    · have h2I : ¬ (im : Int) ≤ 3 := by omega
      have hR : Aside (tinyB gn nn im = false) := decide_eq_false fun h => h2 h.2.1
      go_wp2
      go_ret
      exact ⟨by rw [hR.out]; rfl, hb0⟩
  · have h1I : ¬ (nn : Int) ≤ 8 := by omega
    have hR : Aside (tinyB gn nn im = false) := decide_eq_false fun h => h1 h.1
    go_wp2
    go_ret
    exact ⟨by rw [hR.out]; rfl, hb0⟩
end Go.Proofs.YtdgnafjllokioaaGreatDoor
/- Kind: a state as a number, inputs by number, walked. -/
set_option autoImplicit false
set_option linter.unusedVariables false
set_option linter.unusedSimpArgs false
namespace Go.Proofs.YtdgnafjllokioaaGreatDoor
open Go.Proofs Go
open Go.RowKit Kb
theorem or_small : ∀ k : Fin 10, ∀ m : Fin 512, bits .or .i64 (m.val : Int) (wrap64 (2 ^ k.val)) = ((m.val ||| 2 ^ k.val : Nat) : Int) := by decide +kernel
theorem shr_small : ∀ i : Fin 4, ∀ n : Fin 16, bits .and .i64 ((n.val : Int) / 2 ^ i.val) 1 = ((n.val / 2 ^ i.val % 2 : Nat) : Int) := by decide +kernel
set_option maxHeartbeats 4000000 in
set_option maxRecDepth 1000000 in
theorem key_walk (a : Option Addr) (c n : Nat) (us : List Bool) (w : World) (hn : us.length = n) (hlen : n ≤ 10) (ha : Bools w a us) :
    Calls Tryz.prog 36 #[.slice a n c] w fun e w' => e = .returned (.int .i64 (keyZ us : Int)) ∧ w' = w := by
  go_enter Tryz.func36, Tryz.ntmps36
  go_wp2
  go_loopw [3, 8] (fun kv i wr => ∃ k : Nat, k ≤ n ∧ i = .int .i64 k ∧ kv = .int .i64 (keyZ (us.take k) : Int) ∧ wr = w) (fun _ i _ => n - (intOf i).toNat)
  case atStart => exact ⟨0, Nat.zero_le _, rfl, rfl, rfl⟩
  case round =>
    obtain ⟨k, hk, rfl, rfl, rfl⟩ := hrel
    by_cases hlt : k < n
    · have hltI : (k : Int) < n := by omega
      obtain ⟨xb, xo, rfl, hxb, x0⟩ := ha k (by omega)
      have e1 : us.take (k + 1) = us.take k ++ [us.getD k false] := by rw [List.take_add_one, List.getElem?_eq_getElem (by omega), getD_lt (by omega)]; rfl
      have hks := key_snoc (us.take k) (us.getD k false)
      rw [← e1, List.length_take, Nat.min_eq_left (by omega)] at hks
      have hor := key_or (us.take k)
      rw [List.length_take, Nat.min_eq_left (by omega)] at hor
      have hlk := keyZ_lt (us.take k)
      rw [List.length_take, Nat.min_eq_left (by omega)] at hlk
      have hpk : 2 ^ k ≤ 2 ^ 9 := Nat.pow_le_pow_right (by decide) (by omega)
      obtain ⟨m, hm⟩ : ∃ m, keyZ (us.take k) = m := ⟨_, rfl⟩
      obtain ⟨x, hx⟩ : ∃ x, us.getD k false = x := ⟨_, rfl⟩
      rw [hx] at x0 hks
      rw [hm] at hks hor hlk
      cases x with
      | true =>
        have hbo := or_small ⟨k, by omega⟩ ⟨m, by have : 2 ^ 9 = 512 := rfl; omega⟩
        dsimp only at hbo
        rw [hor] at hbo
        have hA : Aside (keyZ (us.take (k + 1)) = m + 2 ^ k) := by unfold Aside; rw [hks]; simp
        clear hks hor e1 hlk hpk
        simp only [hm]
        go_wp2
        exact ⟨⟨k + 1, hlt, by go_num, by rw [hA.out]; simp, by trivial⟩, by simp [intOf]; omega⟩
      | false =>
        have hA : Aside (keyZ (us.take (k + 1)) = m) := by unfold Aside; rw [hks]; simp
        clear hks hor e1
        simp only [hm]
        go_wp2
        go_roundw
        case rel => exact ⟨k + 1, hlt, by go_num, by rw [hA.out], by trivial⟩
        case measure => simp [intOf]; omega
    · have hkn : k = n := by omega
      subst hkn
      have hlt' : ¬ (k : Int) < k := by omega
      have e1 : us.take k = us := List.take_of_length_le (by omega)
      simp only [e1]
      go_wp2
      go_ret
      exact ⟨rfl, by trivial⟩
end Go.Proofs.YtdgnafjllokioaaGreatDoor

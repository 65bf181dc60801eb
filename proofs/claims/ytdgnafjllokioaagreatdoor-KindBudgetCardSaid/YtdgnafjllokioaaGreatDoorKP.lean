/- Kind: the inputs that lead to a state (trace), walked. -/
import Derived.Test.YtdgnafjllokioaaGreatDoorKO
import Derived.Maps.Own
import Derived.Maps.Views
set_option linter.unusedVariables false
set_option linter.unusedSimpArgs false
set_option autoImplicit false
set_option linter.unusedVariables false
set_option linter.unusedSimpArgs false
namespace Go.Proofs.YtdgnafjllokioaaGreatDoor
open Go.Proofs Go
open Go.RowKit Kb
theorem info25 : (Tryz.prog.info? 25).map (fun i => (i.zero, i.size, i.bytes)) = some (some (.slice none 0 0), 1, 24) := by kernel_rfl
/-- states that were come to, in memory -/
def Vis (w : World) (a : Option Addr) (l : List Vi) : Prop := ∀ j v, l[j]? = some v → ∃ b off sa sc, a = some ⟨b, off, none⟩ ∧ b < w.heap.size ∧ w.cell? ⟨b, off + j * 4, none⟩ = some (.slice sa v.st.length sc) ∧ Bools w sa v.st ∧ w.cell? ⟨b, off + j * 4 + 1, none⟩ = some (.int .i64 v.fr) ∧ w.cell? ⟨b, off + j * 4 + 2, none⟩ = some (.int .i64 v.inp) ∧ w.cell? ⟨b, off + j * 4 + 3, none⟩ = some (.int .i64 v.tick)
theorem Vis.below {w wr : World} {a : Option Addr} {l : List Vi} (h : Vis w a l) (hb : Below w.heap.size w wr) : Vis wr a l := fun j v hj => by
  obtain ⟨b, off, sa, sc, e1, e2, e3, e4, e5, e6, e7⟩ := h j v hj
  exact ⟨b, off, sa, sc, e1, Nat.lt_of_lt_of_le e2 hb.size, (hb.cell (by exact e2)).trans e3, e4.below hb, (hb.cell (by exact e2)).trans e5, (hb.cell (by exact e2)).trans e6, (hb.cell (by exact e2)).trans e7⟩
/-- one step back -/
theorem back_cases {s : Sy} {l : List Vi} {a0 p : Nat} {v : Vi} (h : Inv s l a0) (hv : l[p]? = some v) : (v.fr < 0 ∧ backZ (p + 1) l p = []) ∨ ∃ q n : Nat, q < p ∧ q < l.length ∧ v.fr = (q : Int) ∧ v.inp = (n : Int) ∧ n < 2 ^ s.ins.length ∧ backZ (p + 1) l p = v.inp :: backZ (q + 1) l q := by
  rcases Nat.eq_zero_or_pos p with e | e
  · subst e
    rw [h.root] at hv
    cases hv
    exact .inl ⟨show (-1 : Int) < 0 by decide, back_root h⟩
  · obtain ⟨q, n, u, h1, _, h3, h4, h5, h6, _⟩ := h.path p v e hv
    exact .inr ⟨q, n, h1, (List.getElem?_eq_some_iff.1 h3).1, h4, h5, h6, back_step h hv h4 h1⟩
theorem back_nat {s : Sy} {l : List Vi} {a0 : Nat} (h : Inv s l a0) : ∀ (p : Nat), p < l.length → ∀ x ∈ backZ (p + 1) l p, ∃ m : Nat, x = (m : Int) ∧ m < 2 ^ s.ins.length := by
  intro p
  induction p using Nat.strongRecOn with
  | _ p ih =>
    intro hp x hx
    rcases back_cases h (List.getElem?_eq_getElem hp) with ⟨_, e⟩ | ⟨q, m, hq, hql, _, e2, hm, e⟩
    · rw [e] at hx; cases hx
    · rw [e] at hx
      rcases List.mem_cons.1 hx with e3 | e3
      · exact ⟨m, e3.trans e2, hm⟩
      · exact ih q hq hql x e3
/-- rows of bits of the call's own, in a row of the call's own -/
def RowsOf (lo im : Nat) (T : List (List Bool)) (r : Nat) (ts : List Value) (w : World) : Prop := ∀ j, j < r → ∃ v, ts[j]? = some v ∧ w.ownsRow lo 3 1 v im (nvs (T.getD j []))
theorem RowsOf.snoc {lo im r : Nat} {T : List (List Bool)} {ts : List Value} {w w' : World} {v : Value} (h : RowsOf lo im T r ts w) (hl : ts.length = r) (hk : ∀ u us, w.ownsRow lo 3 1 u im us → w'.ownsRow lo 3 1 u im us) (hv : w'.ownsRow lo 3 1 v im (nvs (T.getD r []))) : RowsOf lo im T (r + 1) (ts ++ [v]) w' := fun j hj => by
  by_cases e : j < r
  · obtain ⟨u, h1, h2⟩ := h j e
    exact ⟨u, by rw [List.getElem?_append_left (by omega)]; exact h1, hk _ _ h2⟩
  · have : j = r := by omega
    subst this
    exact ⟨v, by rw [List.getElem?_append_right (by omega), hl, Nat.sub_self]; rfl, hv⟩
theorem nvs_nvl (l : List Bool) : nvs l = (nvl l).map (Value.int .i64) := by unfold nvs nvl; rw [List.map_map]; rfl
theorem bits2_of {lo im r : Nat} {T : List (List Bool)} {ts : List Value} {ov : Value} {w : World} (ho : w.ownsRow lo 25 1 ov r ts) (h : RowsOf lo im T r ts w) (hT : T.length = r) (hTl : ∀ t ∈ T, t.length = im) : ∃ ta tc, ov = .slice ta T.length tc ∧ Bits2 w ta T := by
  rw [hT]
  rcases ho.2 with ⟨e1, e2⟩ | ⟨g, cap, cur, e1, hb, hg, hc, _⟩
  · exact ⟨none, 0, by rw [e1, e2], fun j hj => by omega⟩
  · rw [e1] at ho ⊢
    refine ⟨_, cap, rfl, fun j hj => ?_⟩
    obtain ⟨v, h1, h2⟩ := h j (by omega)
    have hl : (T.getD j []).length = im := by
      rw [List.getD_eq_getElem?_getD, List.getElem?_eq_getElem hj]
      exact hTl _ (List.getElem_mem _)
    rw [nvs_nvl] at h2
    obtain ⟨e3, h3⟩ := ints_own h2 (by rw [nvl_len, hl])
    refine ⟨g, 0, adOf v, cpOf v, rfl, (Array.getElem?_eq_some_iff.1 hg).1, ?_, h3⟩
    rw [Nat.zero_add, ho.cellAt j (by omega), h1, hl, ← e3]
/-- a trace in rows of the call's own -/
def OwnT (lo im : Nat) (ov : Value) (T : List (List Bool)) (w : World) : Prop := (∃ ts, w.ownsRow lo 25 1 ov T.length ts ∧ RowsOf lo im T T.length ts w) ∧ ∀ t ∈ T, t.length = im
theorem OwnT.base {lo lo' im : Nat} {ov : Value} {T : List (List Bool)} {w : World} (h : OwnT lo im ov T w) (hl : lo' ≤ lo) : OwnT lo' im ov T w := by
  obtain ⟨⟨ts, h1, h2⟩, h3⟩ := h
  exact ⟨⟨ts, owns_base h1 hl, fun j hj => by
    obtain ⟨v, a, b⟩ := h2 j hj
    exact ⟨v, a, owns_base b hl⟩⟩, h3⟩
theorem OwnT.keep {lo im : Nat} {ov : Value} {T : List (List Bool)} {w w' : World} (h : OwnT lo im ov T w) (hk : ∀ g, lo ≤ g → w'.heap[g]? = w.heap[g]?) : OwnT lo im ov T w' := by
  obtain ⟨⟨ts, h1, h2⟩, h3⟩ := h
  exact ⟨⟨ts, owns_keep h1 fun g e => hk g (h1.lt g e).1, fun j hj => by
    obtain ⟨v, a, b⟩ := h2 j hj
    exact ⟨v, a, owns_keep b fun g e => hk g (b.lt g e).1⟩⟩, h3⟩
theorem OwnT.bits {lo im : Nat} {ov : Value} {T : List (List Bool)} {w : World} (h : OwnT lo im ov T w) : ∃ ta tc, ov = .slice ta T.length tc ∧ Bits2 w ta T := by
  obtain ⟨⟨ts, h1, h2⟩, h3⟩ := h
  exact bits2_of h1 h2 rfl h3
def ivz (l : List Int) : List Value := l.map (Value.int .i64)
theorem ivz_snoc (l : List Int) (x : Int) : ivz (l ++ [x]) = ivz l ++ [.int .i64 x] := by unfold ivz; rw [List.map_append]; rfl
set_option maxHeartbeats 8000000 in
set_option maxRecDepth 1000000 in
theorem trace_walk (cb : Nat) (d : SA) (y : Sy) (gn nn im : Nat) (ok asm : Int) (la : Option Addr) (ln lc : Nat) (l : List Vi) (a0 at' n : Nat) (w : World) (hsb : SB cb d gn nn im ok asm w) (him : y.ins.length = im) (hi9 : im ≤ 3) (hinv : Inv y l a0) (hln : l.length = ln) (hl9 : ln ≤ 1000) (hat : at' < ln) (hn : n < 2 ^ im) (hvis : Vis w la l) :
    Calls Tryz.prog 39 #[.pointer (some ⟨cb, 0, none⟩), .slice la ln lc, .int .i64 (at' : Int), .int .i64 (n : Int)] w fun e w' => ∃ ov, e = .returned ov ∧ OwnT w.heap.size im ov (traceZ y l at' n) w' ∧ Below w.heap.size w w' := by
  obtain ⟨lo, hlo⟩ : ∃ n, w.heap.size = n := ⟨_, rfl⟩
  have hcb : cb < lo := hlo ▸ hsb.lt
  have h8 : 2 ^ im ≤ 8 := Nat.le_trans (Nat.pow_le_pow_right (by decide) hi9) (by decide)
  have hlab : ∀ b off, la = some ⟨b, off, none⟩ → b < lo := fun b off e => by
    obtain ⟨b', o', _, _, e1, e2, _⟩ := hvis at' _ (List.getElem?_eq_getElem (by omega))
    rw [e] at e1
    cases e1
    exact hlo ▸ e2
  have hvis2 : ∀ W, Below lo w W → Vis W la l := fun W hb => hvis.below (hlo ▸ hb)
  have hsb2 : ∀ W, Below lo w W → SB cb d gn nn im ok asm W := fun W hb => hsb.below hcb hb
  have hsz : ∀ W, Below lo w W → lo ≤ W.heap.size := fun W hb => hlo ▸ hb.size
  obtain ⟨i3, hi3, hz30, hz31, hz32⟩ := info_parts' info3
  obtain ⟨i25, hi5, hz50, hz51, hz52⟩ := info_parts' info25
  obtain ⟨B, hB⟩ : ∃ B, (n : Int) :: backZ (at' + 1) l at' = B := ⟨_, rfl⟩
  have htr : traceZ y l at' n = B.reverse.map fun k => bitsZ im k.toNat := by unfold traceZ; rw [hB, him]
  obtain ⟨T, hT⟩ : ∃ T, B.reverse.map (fun k : Int => bitsZ im k.toNat) = T := ⟨_, rfl⟩
  rw [htr, hT]
  have hT' : Aside _ := hT
  clear hT
  rw [hlo]
  have hb00 : Below lo w w := Below.refl _ _
  have hnil : w.ownsRow lo 3 1 (.slice none 0 0) 0 [] := World.ownsRow_nil _ _ _ _
  obtain ⟨hrow2, hszz, hgr⟩ := row_push (ob := .cells #[.int .i64 (n : Int)] 3) hnil (Nat.le_of_eq hlo.symm) rfl
  have hK : Aside ((∀ (j : Nat) (x : Value), [Value.int .i64 (n : Int)][j]? = some x → (w.alloc (.cells #[.int .i64 (n : Int)] 3)).cell? ((⟨w.heap.size, 0, none⟩ : Addr).add j) = some x) ∧ (∀ x ∈ [Value.int .i64 (n : Int)], x.oneCell' = true)) :=
    ⟨one_new w _ 3, fun x hx => by rw [List.mem_singleton.1 hx]; rfl⟩
  have hbA : Aside (Below lo w w ∧ ∀ w3, (w.alloc (.cells #[.int .i64 (n : Int)] 3)).grownBy w3 none → Below lo w w3) := ⟨hb00, hgr⟩
  clear hb00 hgr hsb hvis hnil htr
  go_enter Tryz.func39, Tryz.ntmps39
  clear hlo
  go_wp2_with (first | (at_builtin; refine wpList_append_own _ rfl _ _ 25 rfl lo 3 i3 (.int .i64 0) 1 8 Tryz.underlying25 hi3 hz30 hz31 hz32 rfl (by decide) _ _ _ rfl hrow2 ⟨w.heap.size, 0, none⟩ 1 1 [.int .i64 (n : Int)] rfl rfl hK.out.1 hK.out.2 (by unfold maxLen; omega) (by omega) hszz ?_))
  intro v1 w1 hown1 hgrow1 hne1
  have hb1 : Below lo w w1 := hbA.out.2 w1 hgrow1
  have hnat : ∀ x ∈ B, ∃ m : Nat, x = (m : Int) ∧ m < 2 ^ im := by
    rw [← hB]
    intro x hx
    rcases List.mem_cons.1 hx with e | e
    · exact ⟨n, e, hn⟩
    · rw [← him]
      exact back_nat hinv at' (by omega) x e
  have hown1 : w1.ownsRow lo 3 1 v1 1 (ivz [(n : Int)]) := hown1
  have hnat' : Aside _ := hnat
  have hB' : Aside ((n : Int) :: backZ (at' + 1) l at' = B) := hB
  clear hgrow1 hne1 hbA hrow2 hK hszz hnat hB
  go_wp2
  go_loopw [9, 10] (fun bv i wr => ∃ (p : Nat) (cur : List Int), p < ln ∧ i = .int .i64 p ∧ wr.ownsRow lo 3 1 bv cur.length (ivz cur) ∧ Below lo w wr ∧ B = cur ++ backZ (p + 1) l p ∧ cur.length + p ≤ at' + 1) (fun _ i _ => (intOf i).toNat)
  case atStart => exact ⟨at', [(n : Int)], hat, rfl, hown1, hb1, hB'.out.symm, by show 1 + at' ≤ _; omega⟩
  case round =>
    clear hown1 hb1 hB'
    obtain ⟨p, cur, hp, rfl, hrow, hb, hBe, hcl⟩ := hrel
    obtain ⟨v, hv⟩ : ∃ v, l[p]? = some v := ⟨_, List.getElem?_eq_getElem (by omega)⟩
    obtain ⟨vb, vo, sa, sc, hva, hvb, _, _, c1, c2, _⟩ := hvis2 wr hb p v hv
    have hvlt := hlab _ _ hva
    rcases back_cases hinv hv with ⟨hfr, hbe⟩ | ⟨q, m, hq, hql, hfr, hin, hm, hbe⟩
    · obtain ⟨f, hf⟩ : ∃ f, v.fr = f := ⟨_, rfl⟩
      rw [hf] at c1 hfr
      have hf2 : ¬ f ≥ 0 := by omega
      rw [hbe, List.append_nil] at hBe
      subst hva
      clear hbe hv
      subst hBe
      obtain ⟨N, hN⟩ : ∃ N, B.length = N := ⟨_, rfl⟩
      have hN9 : N ≤ 1001 := by omega
      rw [hN] at hrow
      obtain ⟨e9, hz9⟩ := ints_own hrow hN
      rw [e9]
      generalize adOf u9 = ba at hz9
      generalize cpOf u9 = bc
      have hT := hT'.out
      have hTl : T.length = N := by rw [← hT, List.length_map, List.length_reverse, hN]
      have hTi : ∀ t ∈ T, t.length = im := fun t ht => by
        rw [← hT] at ht
        obtain ⟨k, _, rfl⟩ := List.mem_map.1 ht
        exact bitsZ_len _ _
      have hTg : ∀ r e : Nat, r < N → e + r + 1 = N → ∃ m : Nat, B.getD e 0 = (m : Int) ∧ m < 2 ^ im ∧ T.getD r [] = bitsZ im m := fun r e hr he => by
        obtain ⟨m, h1, h2⟩ := hnat'.out (B.getD e 0) (by rw [List.getD_eq_getElem?_getD, List.getElem?_eq_getElem (by omega)]; exact List.getElem_mem _)
        refine ⟨m, h1, h2, ?_⟩
        rw [← hT, List.getD_eq_getElem?_getD, List.getElem?_map, List.getElem?_reverse (by omega), show B.length - 1 - r = e by omega]
        rw [List.getD_eq_getElem?_getD] at h1
        rw [List.getElem?_eq_getElem (by omega)] at h1 ⊢
        show bitsZ im (B[e].toNat) = _
        have h1 : B[e] = (m : Int) := h1
        rw [h1, Int.toNat_natCast]
      obtain ⟨lo2, hlo2⟩ : ∃ n, wr.heap.size = n := ⟨_, rfl⟩
      have hle : lo ≤ lo2 := hlo2 ▸ hsz _ hb
      have hz2 : ∀ W, Below lo2 wr W → Ints W ba B := fun W h => hz9.below (hlo2 ▸ h)
      have hsb3 : ∀ W, Below lo2 wr W → SB cb d gn nn im ok asm W := fun W h => hsb2 W (hb.trans (h.mono hle))
      have hsz2 : ∀ W, Below lo2 wr W → lo2 ≤ W.heap.size := fun W h => hlo2 ▸ h.size
      have hb20 : Below lo2 wr wr := Below.refl _ _
      clear hrow hz9 hsb2 hlab hvis2 hnat' c2 hT
      obtain ⟨W0, hW0⟩ : ∃ W, W = wr := ⟨_, rfl⟩
      subst hW0
      go_wp2
      go_loopw [11, 12] (fun ov jv wr => ∃ (r : Nat) (ts : List Value), r ≤ N ∧ jv = .int .i64 ((N : Int) - 1 - r) ∧ wr.ownsRow lo2 25 1 ov r ts ∧ RowsOf lo2 im T r ts wr ∧ Below lo2 W0 wr) (fun _ jv _ => (intOf jv + 1).toNat)
      case atStart => exact ⟨0, [], Nat.zero_le _, by first | rfl | (congr 1; omega) | (simp), World.ownsRow_nil _ _ _ _, fun j hj => absurd hj (Nat.not_lt_zero _), hb20⟩
      case round =>
        clear hb20
        obtain ⟨r, ts, hr, rfl, hrow, hro, hbr⟩ := hrel
        have htl : ts.length = r := by rw [hrow.1, Nat.mul_one]
        by_cases hlt : r < N
        · obtain ⟨e, he⟩ : ∃ e : Nat, (N : Int) - 1 - r = e := ⟨N - 1 - r, by omega⟩
          obtain ⟨m, hm1, hm2, hm3⟩ := hTg r e hlt (by omega)
          obtain ⟨bb, bo, rfl, hbb, hc9⟩ := hz2 wr hbr e (by omega)
          rw [hm1] at hc9
          rw [he]
          have heN : (e : Int) < N := by omega
          have hinp := input_walk cb d gn nn im m ok asm wr (hsb3 wr hbr) hi9 (by omega)
          unfold InputOut at hinp
          rw [bitsZ_len, ← hm3] at hinp
          have hszr := hsz2 wr hbr
          have hp1 : ∀ w2, Below wr.heap.size wr w2 → w2.ownsRow lo2 25 1 u11 r ts ∧ RowsOf lo2 im T r ts w2 ∧ Below lo2 W0 w2 ∧ lo2 ≤ w2.heap.size := fun w2 h => ⟨own_below' hrow h, fun j hj => by
            obtain ⟨v, h1, h2⟩ := hro j hj
            exact ⟨v, h1, own_below' h2 h⟩, hbr.trans (h.mono hszr), Nat.le_trans hszr h.size⟩
          have hp1' : Aside _ := hp1
          have hszr' : Aside _ := hszr
          obtain ⟨vv, hvv⟩ : ∃ v, v = u11 := ⟨_, rfl⟩
          subst hvv
          clear hrow hro hbr hz2 hsb3 hTg hm1 hm3 hp1 hszr
          go_upto_region 12 with (first | (go_at_call 37; refine hinp.mono ?_; rintro e2 w2 ⟨lv, tv, p1, _, q2, q3⟩; rw [p1]; clear p1))
          obtain ⟨sa2, sc2, rfl⟩ := own_shape q2
          obtain ⟨g1, g2, g3, g4⟩ := hp1'.out w2 q3
          obtain ⟨hrow2, hszz, hgr⟩ := row_push (ob := .cells #[Value.slice sa2 im sc2] 25) g1 g4 rfl
          have htv : w2.ownsRow lo2 3 1 (.slice sa2 im sc2) im (nvs (T.getD r [])) := owns_base q2 hszr'.out
          have hK : Aside ((∀ (j : Nat) (x : Value), [Value.slice sa2 im sc2][j]? = some x → (w2.alloc (.cells #[Value.slice sa2 im sc2] 25)).cell? ((⟨w2.heap.size, 0, none⟩ : Addr).add j) = some x) ∧ (∀ x ∈ [Value.slice sa2 im sc2], x.oneCell' = true) ∧ r + 1 ≤ maxLen ∧ (r + 1) * 24 ≤ 140737488355328) :=
            ⟨one_new w2 _ 25, fun x hx => by rw [List.mem_singleton.1 hx]; rfl, by unfold maxLen; omega, by omega⟩
          have hbA : Aside (Below lo2 W0 w2 ∧ RowsOf lo2 im T r ts w2 ∧ w2.ownsRow lo2 3 1 (.slice sa2 im sc2) im (nvs (T.getD r [])) ∧ w2.ownsRow lo2 25 1 vv r ts ∧ ∀ w3, (w2.alloc (.cells #[Value.slice sa2 im sc2] 25)).grownBy w3 vv.ownBlock → Below lo2 w2 w3) := ⟨g3, g2, htv, g1, hgr⟩
          clear g1 g2 g3 g4 hgr q2 q3 htv hp1' hinp
          go_wp2_with (first | (at_builtin; refine wpList_append_own _ rfl _ _ 31 rfl lo2 25 i25 (.slice none 0 0) 1 24 Tryz.underlying31 hi5 hz50 hz51 hz52 rfl (by decide) _ _ _ rfl hrow2 ⟨w2.heap.size, 0, none⟩ 1 1 [Value.slice sa2 im sc2] rfl rfl hK.out.1 hK.out.2.1 hK.out.2.2.1 hK.out.2.2.2 hszz ?_))
          intro v3 w3 hown3 hgrow3 hne3
          have hG : Aside (w3.ownsRow lo2 25 1 v3 (r + 1) (ts ++ [Value.slice sa2 im sc2]) ∧ Below lo2 W0 w3 ∧ RowsOf lo2 im T (r + 1) (ts ++ [Value.slice sa2 im sc2]) w3) := by
            obtain ⟨g3, g2, htv, g1, hgr⟩ := hbA.out
            have hk : ∀ u us, w2.ownsRow lo2 3 1 u im us → w3.ownsRow lo2 3 1 u im us := fun u us h => own_grown (own_below' h ((Below.refl _ _).alloc (Nat.le_refl _) _)) (own_below' g1 ((Below.refl _ _).alloc (Nat.le_refl _) (.cells #[Value.slice sa2 im sc2] 25))) (by decide) hgrow3
            exact ⟨hown3, g3.trans (hgr w3 hgrow3), g2.snoc htl hk (hk _ _ htv)⟩
          clear hown3 hgrow3 hne3 hbA hrow2 hK hszz
          go_wp2
          go_roundw
          case rel => exact ⟨r + 1, ts ++ [Value.slice sa2 im sc2], hlt, by first | go_num | (congr 1; omega), hG.out.1, hG.out.2.2, hG.out.2.1⟩
          case measure => simp only [intOf]; omega
        · have hrN : r = N := by omega
          subst hrN
          have hge : ¬ (r : Int) - 1 - r ≥ 0 := by omega
          have heq : (r : Int) - 1 - r = -1 := by omega
          rw [heq]
          have hR : Aside (OwnT lo im u11 T wr ∧ Below lo w wr) := ⟨OwnT.base (lo := lo2) ⟨⟨ts, hTl.symm ▸ hrow, hTl.symm ▸ hro⟩, hTi⟩ hle, hb.trans (hbr.mono hle)⟩
          clear hrow hro hbr hge heq
          go_wp2
          go_ret
          exact ⟨u11, rfl, hR.out.1, hR.out.2⟩
    · rw [hfr] at c1
      rw [hin] at c2
      rw [hbe, hin] at hBe
      subst hva
      obtain ⟨hrow2, hszz, hgr⟩ := row_push (ob := .cells #[.int .i64 (m : Int)] 3) hrow (hsz _ hb) rfl
      have hK : Aside ((∀ (j : Nat) (x : Value), [Value.int .i64 (m : Int)][j]? = some x → (wr.alloc (.cells #[.int .i64 (m : Int)] 3)).cell? ((⟨wr.heap.size, 0, none⟩ : Addr).add j) = some x) ∧ (∀ x ∈ [Value.int .i64 (m : Int)], x.oneCell' = true) ∧ cur.length + 1 ≤ maxLen ∧ (cur.length + 1) * 8 ≤ 140737488355328) :=
        ⟨one_new wr _ 3, fun x hx => by rw [List.mem_singleton.1 hx]; rfl, by unfold maxLen; omega, by omega⟩
      obtain ⟨vv, hvv⟩ : ∃ v, v = u9 := ⟨_, rfl⟩
      subst hvv
      have hbA : Aside (Below lo w wr ∧ ∀ w3, (wr.alloc (.cells #[.int .i64 (m : Int)] 3)).grownBy w3 vv.ownBlock → Below lo wr w3) := ⟨hb, hgr⟩
      have hsu : Aside (ivz (cur ++ [(m : Int)]) = ivz cur ++ [.int .i64 (m : Int)] ∧ B = (cur ++ [(m : Int)]) ++ backZ (q + 1) l q) := ⟨ivz_snoc _ _, by rw [hBe, List.append_assoc]; rfl⟩
      clear hgr hrow hBe hbe hv hfr hin
      go_wp2_with (first | (at_builtin; refine wpList_append_own _ rfl _ _ 25 rfl lo 3 i3 (.int .i64 0) 1 8 Tryz.underlying25 hi3 hz30 hz31 hz32 rfl (by decide) _ _ _ rfl hrow2 ⟨wr.heap.size, 0, none⟩ 1 1 [.int .i64 (m : Int)] rfl rfl hK.out.1 hK.out.2.1 hK.out.2.2.1 hK.out.2.2.2 hszz ?_))
      intro v3 w3 hown3 hgrow3 hne3
      have hb3 := hbA.out.2 w3 hgrow3
      have c4 : w3.cell? ⟨vb, vo + p * 4 + 1, none⟩ = some (.int .i64 (q : Int)) := (hb3.cell (p := ⟨vb, vo + p * 4 + 1, none⟩) hvlt).trans c1
      have hG : Aside (w3.ownsRow lo 3 1 v3 (cur ++ [(m : Int)]).length (ivz (cur ++ [(m : Int)])) ∧ Below lo w w3) := by
        refine ⟨?_, hbA.out.1.trans hb3⟩
        rw [hsu.out.1, List.length_append]
        exact hown3
      clear hown3 hgrow3 hne3 hbA hrow2 hK hszz hb3 c1
      go_wp2
      go_roundw
      case rel => exact ⟨q, cur ++ [(m : Int)], by omega, by go_num, hG.out.1, hG.out.2, hsu.out.2, by rw [List.length_append]; show cur.length + 1 + q ≤ _; omega⟩
      case measure => simp only [intOf]; omega
end Go.Proofs.YtdgnafjllokioaaGreatDoor
/- Kind: a map of numbers that were seen. -/
set_option autoImplicit false
set_option linter.unusedVariables false
set_option linter.unusedSimpArgs false
namespace Go.Proofs.YtdgnafjllokioaaGreatDoor
open Go.Proofs Go
open Go.RowKit Kb
theorem keyLaw3 : Go.Maps.Keyed Tryz.prog 3 := Go.Maps.int_keyed Tryz.underlying3
theorem zeroI3 (w : World) : (zeroValue 3).run Tryz.prog w = .ok (.int .i64 0) w := by kernel_rfl
theorem wfI {x : Int} (h0 : 0 ≤ x) (h1 : x ≤ 1000000) : (Lit.int .i64 x).wf = true := by
  have a1 : IntKind.i64.min ≤ 0 := by decide
  have a2 : (1000000 : Int) ≤ IntKind.i64.max := by decide
  simp only [Lit.wf, Bool.and_eq_true, decide_eq_true_eq]
  omega
/-- block mb is a map in which just the numbers of a list stand, each with 1 -/
def MapS (mb m : Nat) (l : List Int) (w : World) : Prop := ∃ D : DataW Value, w.ownsMap Tryz.prog 3 (plainElem Tryz.prog 3) mb m D ∧ ∀ x : Int, D.atKey (.int .i64 x) (.lit (.int .i64 0)) = .lit (.int .i64 (if x ∈ l then 1 else 0))
theorem MapS.new (w : World) : MapS w.heap.size 0 [] (w.alloc (.map #[] 0)) := ⟨.map [], World.ownsMap_made _ _ _ _, fun x => rfl⟩
theorem MapS.lt {mb m : Nat} {l : List Int} {w : World} (h : MapS mb m l w) : mb < w.heap.size := by
  obtain ⟨D, h1, _⟩ := h
  exact h1.lt
theorem MapS.kept {mb m : Nat} {l : List Int} {w w' : World} (h : MapS mb m l w) (e : w'.heap[mb]? = w.heap[mb]?) : MapS mb m l w' := by
  obtain ⟨D, ⟨es, clock, hb, F, hs, hD⟩, h2⟩ := h
  exact ⟨D, ⟨es, clock, e.trans hb, F, hs, hD⟩, h2⟩
theorem MapS.below {mb m lo : Nat} {l : List Int} {w w' : World} (h : MapS mb m l w) (hl : mb < lo) (hb : Below lo w w') : MapS mb m l w' := h.kept (hb.block mb hl)
theorem MapS.look {mb m : Nat} {l : List Int} {w : World} (h : MapS mb m l w) {x : Int} (h0 : 0 ≤ x) (h1 : x ≤ 1000000) : (Instr.lookup 96 (.map (some mb)) (.int .i64 x) false).run Tryz.prog w = .ok (.int .i64 (if x ∈ l then 1 else 0)) w := by
  obtain ⟨D, hD, hf⟩ := h
  obtain ⟨c, hrun, hat, _⟩ := hD.lookup_int keyLaw3 Tryz.underlying96 Tryz.underlying3 (zeroI3 w) (Go.Maps.keyOf_int_mk Tryz.underlying3 (wfI h0 h1))
  rw [hf x] at hat
  cases hat
  exact hrun
theorem MapS.put {mb m : Nat} {l : List Int} {w : World} (h : MapS mb m l w) (hm : m < maxLen) {x : Int} (h0 : 0 ≤ x) (h1 : x ≤ 1000000) :
    ∃ w', (Instr.mapUpdate 96 (.map (some mb)) (.int .i64 x) (.int .i64 1)).run Tryz.prog w = .ok () w' ∧ MapS mb (m + 1) (l ++ [x]) w' ∧ w.grownBy w' (some mb) := by
  obtain ⟨D, hD, hf⟩ := h
  have hmap : Go.Maps.IsMap D := by
    obtain ⟨es, clock, _, _, _, e⟩ := hD
    exact ⟨_, e⟩
  have hk := Go.Maps.keyOf_int_mk Tryz.underlying3 (wfI h0 h1)
  obtain ⟨w', h1', h2, h3⟩ := hD.update keyLaw3 Tryz.underlying96 hm hk (val := .int .i64 1) (plainElem_int Tryz.underlying3 (by decide))
  refine ⟨w', h1', ⟨_, h2, fun z => ?_⟩, h3⟩
  by_cases e : z = x
  · subst e
    rw [Go.Maps.atKey_put_same hmap (keyLaw3.key hk)]
    simp
  · rw [Go.Maps.atKey_put_other (by intro e2; cases e2; exact e rfl), hf z]
    simp [e]
theorem grown_trans {w w' w'' : World} {row : Option Nat} (h : w.grownBy w' row) (h' : w'.grownBy w'' row) : w.grownBy w'' row :=
  ⟨h'.os.trans h.os, h'.tape.trans h.tape, h'.output.trans h.output, Nat.le_trans h.size h'.size, fun i hi e => (h'.block i (Nat.lt_of_lt_of_le hi h.size) e).trans (h.block i hi e)⟩
theorem below_of_grown {w w' : World} {mb lo : Nat} (h : w.grownBy w' (some mb)) (hl : lo ≤ mb) (hs : lo ≤ w.heap.size) : Below lo w w' := (Below.refl lo w).grown h hs fun g e => by cases e; exact hl
def offB (nn im k : Nat) : Nat := if k = 0 then 0 else if k = 1 then nn else nn + im
theorem nodup_fresh {l : List Int} (h : l.Nodup) {k : Nat} (hk : k < l.length) : ¬ l.getD k 0 ∈ l.take k := fun hm => by
  have hd := List.take_append_drop k l
  rw [drop_cons 0 hk] at hd
  rw [← hd, List.nodup_append] at h
  exact h.2.2 _ hm _ (List.mem_cons_self ..) rfl
end Go.Proofs.YtdgnafjllokioaaGreatDoor

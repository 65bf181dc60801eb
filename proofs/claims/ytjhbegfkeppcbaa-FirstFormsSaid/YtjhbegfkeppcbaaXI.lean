/- Appending. -/
import Derived.Test.YtjhbegfkeppcbaaXH
set_option autoImplicit false
namespace Go.X
noncomputable section
section
variable {P : Program} {w w' : World} {t tx ty e e2 : TypeId} {i : TypeInfo} {z : Value}
theorem run_app_room (ht : P.underlying t = some (.slice e)) (htx : P.underlying tx = some (.slice e2)) (hi : P.info? e = some i) {xb : Option Addr} {n xc : Nat} {news : Array Value}
    (hf : (Builtin.firstCells i.size n (.slice xb n xc)).run P w = .ok news w) {a : Addr} {sLen sCap : Nat} (hroom : sLen + n ≤ sCap)
    (hst : (storeCells (a.add (sLen * i.size)) news.toList).run P w = .ok () w') :
    (Builtin.append_ #[t, tx] ty #[.slice (some a) sLen sCap, .slice xb n xc]).run P w = .ok (.slice (some a) (sLen + n) sCap) w' := by
  simp [Builtin.append_, run_underlying ht, run_underlying htx, sizeOf, typeInfo, hi, Builtin.lenOf, hroom, hf, hst]
theorem run_app_none (ht : P.underlying t = some (.slice e)) (htx : P.underlying tx = some (.slice e2)) (hi : P.info? e = some i) {xb base : Option Addr} {xc : Nat} {sLen sCap : Nat}
    (hle : sLen ≤ sCap) (hb : ∀ a, base = some a → a.spot = none) :
    (Builtin.append_ #[t, tx] ty #[.slice base sLen sCap, .slice xb 0 xc]).run P w = .ok (.slice base sLen sCap) w := by
  have hf : (Builtin.firstCells i.size 0 (.slice xb 0 xc)).run P w = .ok #[] w := by
    cases xb <;> simp [Builtin.firstCells, loadCells, loadCellsFrom]
  cases base <;> simp [Builtin.append_, run_underlying ht, run_underlying htx, sizeOf, typeInfo, hi, Builtin.lenOf, hle, hf, storeCells]
theorem run_app_grow (ht : P.underlying t = some (.slice e)) (htx : P.underlying tx = some (.slice e2)) (hi : P.info? e = some i) (hz : i.zero = some z) {xb : Option Addr} {n xc : Nat} {news olds : Array Value}
    (hf : (Builtin.firstCells i.size n (.slice xb n xc)).run P w.drew = .ok news w.drew) {base : Option Addr} {sLen sCap : Nat}
    (hfo : (Builtin.firstCells i.size sLen (.slice base sLen sCap)).run P w.drew = .ok olds w.drew) (hg : sCap < sLen + n)
    (h63 : sLen + n ≤ 9223372036854775807) (hfit : (sLen + n) * i.bytes ≤ 140737488355328) :
    (Builtin.append_ #[t, tx] ty #[.slice base sLen sCap, .slice xb n xc]).run P w =
      .ok (.slice (some ⟨w.heap.size, 0, none⟩) (sLen + n) (grownCap w (sLen + n) sCap e))
        (w.drew.alloc (.cells (olds ++ news ++ Builtin.zeroCells z.cells (grownCap w (sLen + n) sCap e - (sLen + n))) e)) := by
  have hn : ¬ (sLen + n ≤ sCap) := by omega
  have h63' : ¬ (9223372036854775807 < ((sLen : Int) + (n : Int))) := by omega
  have h48' : ¬ (281474976710656 < Builtin.nextslicecap (sLen + n) sCap * i.bytes) := by have := growslice_fits hg hfit; omega
  simp [Builtin.append_, run_underlying ht, run_underlying htx, sizeOf, typeInfo, zeroValue, hi, hz, Builtin.lenOf, hn, h63', h48', Question.forced, hf, hfo, newRow, grownCap]
theorem grownCap_ge (w : World) (need old : Nat) (e : TypeId) : need ≤ grownCap w need old e := by
  simp [grownCap, Question.cut]
end

section
variable {P : Program} {L : LM} {h : H} {w : World} {U : Nat} {m : Bool} {ds : List Bool} {K : KV}
theorem cells_seg {B o : Nat} {vs : List Value} (hc : ∀ (j : Nat) (v : Value), vs[j]? = some v → w.cell? ((⟨B, o, none⟩ : Addr).add j) = some v) {size n len cap : Nat} (hl : vs.length = n * size) {w2 : World} (hw : w2.heap = w.heap) :
    (Builtin.firstCells size n (.slice (some ⟨B, o, none⟩) len cap)).run P w2 = .ok vs.toArray w2 := by
  refine run_firstCells_some w2 size n _ len cap vs hl fun j v hv => ?_
  have := hc j v hv
  simp only [World.cell?, hw] at this ⊢
  exact this
theorem zeroCells_size (zs : Array Value) (n : Nat) : (Builtin.zeroCells zs n).size = n * zs.size := by simp [Builtin.zeroCells]

/-- news at a fresh row -/
theorem app_fresh (r : RH L h w U) (hU : ∀ v h' ds', K v h' ds' → h'.next ≤ U) {t tx ty e e2 : TypeId} {i : TypeInfo} {z : Value} (ht : P.underlying t = some (.slice e)) (htx : P.underlying tx = some (.slice e2)) (hi : P.info? e = some i) (hz : i.zero = some z)
    (hzs : z.cells.size = i.size)
    {xb : Option Addr} {n xc : Nat} {news : List AV} {nv : List Value} (hnv : RVs L news nv) (hf : (Builtin.firstCells i.size n (.slice xb n xc)).run P w.drew = .ok nv.toArray w.drew)
    {base : Option Addr} {sLen sCap : Nat} {olds : List AV} {ov : List Value} (hov : RVs L olds ov) (hfo : (Builtin.firstCells i.size sLen (.slice base sLen sCap)).run P w.drew = .ok ov.toArray w.drew)
    (hn : nv.length = n * i.size) (ho : ov.length = sLen * i.size)
    (hg : sCap < sLen + n) (h63 : sLen + n ≤ 9223372036854775807) (hfit : (sLen + n) * i.bytes ≤ 140737488355328)
    {qs : List Nat} (b' : T Blk) (hb' : ∀ j kj, b'.get j = some kj → (j = h.next ∧ kj = .row (olds ++ news) e true qs) ∨ (j ≠ h.next ∧ ∃ k0, h.b.get j = some k0 ∧ Same k0 kj ∧ ∀ l kl, l ≠ j → l ≠ h.next → b'.get l = some kl → l ∈ k0.ps → l ∈ kj.ps))
    (hk : K (.slc h.next 0 (sLen + n) (sLen + n) false i.size) ⟨b', Nat.succ h.next⟩ ds) :
    SemOK P (Builtin.append_ #[t, tx] ty #[.slice base sLen sCap, .slice xb n xc]) L h w U K := by
  have hrun := run_app_grow (ty := ty) ht htx hi hz hf hfo hg h63 hfit
  have hge := grownCap_ge w (sLen + n) sCap e
  have rd : RH L h w.drew U := r.heap rfl
  have hc : ∀ (k : Nat) (v : AV), (olds ++ news)[k]? = some v → ∃ v', (ov.toArray ++ nv.toArray ++ Builtin.zeroCells z.cells (grownCap w (sLen + n) sCap e - (sLen + n)))[k]? = some v' ∧ RV L v v' := by
    intro k v hv
    obtain ⟨v', a, b⟩ := (hov.append hnv).get hv
    refine ⟨v', ?_, b⟩
    have hlt := (List.getElem?_eq_some_iff.1 a).1
    rw [Array.getElem?_append_left (by simp at hlt ⊢; omega)]
    simpa using a
  obtain ⟨L', e1, e2', e3⟩ := rh_newG rd (hU _ _ _ hk) (.row (olds ++ news) e true qs) (.cells (ov.toArray ++ nv.toArray ++ Builtin.zeroCells z.cells (grownCap w (sLen + n) sCap e - (sLen + n))) e) (fro_alloc _ _ _)
    (ov.toArray ++ nv.toArray ++ Builtin.zeroCells z.cells (grownCap w (sLen + n) sCap e - (sLen + n))).size (fun L' hx => ⟨_, (0, 0), alloc_new _ _, ⟨rfl, Nat.zero_le _⟩, fun _ => rfl, fun k v hv =>
    let ⟨v', a, b⟩ := hc k v hv
    ⟨v', by rw [Nat.zero_add]; exact a, b.mono hx⟩⟩) b' hb'
  refine ⟨_, _, ds, L', _, _, hk, hrun, .slc _ 0 _ _ false i.size _ _ e1 hge (Nat.le_refl _) (fun h => by cases h) ?_, e2', ?_⟩
  · simp only [Array.size_append, zeroCells_size, hzs, List.size_toArray, hn, ho, Nat.zero_add]
    have h1 : grownCap w (sLen + n) sCap e * i.size = (sLen + n) * i.size + (grownCap w (sLen + n) sCap e - (sLen + n)) * i.size := by
      rw [← Nat.add_mul]; congr 1; omega
    have h2 : (sLen + n) * i.size = sLen * i.size + n * i.size := Nat.add_mul _ _ _
    omega
  · exact ⟨e3.ext, e3.size, e3.keep, e3.own, e3.new, e3.next, e3.os, e3.output, e3.tape, e3.fro⟩

theorem out_of_ones {xs : List AV} {K : Prop} (h : (Bool.rec False K (ones xs) : Prop)) : ones xs = true ∧ K := by
  cases ho : ones xs with
  | true => rw [ho] at h; exact ⟨rfl, h⟩
  | false => rw [ho] at h; exact h.elim

theorem row_get (h : H) (cells : List AV) (e : TypeId) {j : Nat} {kj : Blk} (hj : (hrow h cells e).b.get j = some kj) :
    (j = h.next ∧ kj = .row cells e true []) ∨ (j ≠ h.next ∧ ∃ k0, h.b.get j = some k0 ∧ Same k0 kj ∧ ∀ l kl, l ≠ j → l ≠ h.next → (hrow h cells e).b.get l = some kl → l ∈ k0.ps → l ∈ kj.ps) := by
  rcases T.get_set hj with ⟨rfl, rfl⟩ | ⟨hi, hk⟩
  · exact .inl ⟨rfl, rfl⟩
  · exact .inr ⟨hi, kj, hk, .inl rfl, fun _ _ _ _ _ h => h⟩
theorem happ_get {h : H} {i o k : Nat} {cells all : List AV} {e : TypeId} {ps : List Nat} {j : Nat} {kj : Blk} (hj : (happ h i o k cells e ps all).b.get j = some kj) :
    (j = h.next ∧ kj = .row all e true [i]) ∨ (j ≠ h.next ∧ j = i ∧ o = 0 ∧ cells.length ≤ k ∧ kj = .row cells e true [h.next]) ∨ (j ≠ h.next ∧ j ≠ i ∧ j ∉ ps ∧ h.b.get j = some kj) := by
  rcases T.get_set hj with ⟨rfl, rfl⟩ | ⟨hjn, hj⟩
  · exact .inl ⟨rfl, rfl⟩
  · have hdel : ((dels h.b ps).del i).get j = some kj → j ≠ h.next ∧ j ≠ i ∧ j ∉ ps ∧ h.b.get j = some kj := by
      intro hj
      obtain ⟨a, b⟩ := T.get_del hj
      obtain ⟨c, d⟩ := get_dels b
      exact ⟨hjn, a, d, c⟩
    cases h0 : Nat.beq o 0 with
    | false => rw [h0] at hj; exact .inr (.inr (hdel hj))
    | true =>
      rw [h0] at hj
      cases h1 : Nat.ble (llen cells) k with
      | false => rw [h1] at hj; exact .inr (.inr (hdel hj))
      | true =>
        rw [h1] at hj
        rcases T.get_set hj with ⟨rfl, rfl⟩ | ⟨hji, hj⟩
        · have h1 := Nat.le_of_ble_eq_true h1
          rw [llen_eq] at h1
          exact .inr (.inl ⟨hjn, rfl, Nat.eq_of_beq_eq_true h0, h1, rfl⟩)
        · obtain ⟨c, d⟩ := get_dels hj
          exact .inr (.inr ⟨hjn, hji, d, c⟩)
theorem rh_happ (r : RH L h w U) (hU : Nat.succ h.next ≤ U) {i : Nat} {p : Loc} {cells : List AV} {e : TypeId} {ps : List Nat} (hi : h.b.get i = some (.row cells e true ps)) (hp : L i = some p)
    {o k : Nat} {olds news : List AV} {c : Array Value} {ov nv : List Value} (hc : w.heap[p.B]? = some (.cells c e (0, 0)))
    (hov : RVs L olds ov) (hnv : RVs L news nv) (hol : ov.length = k) (hcold : ∀ (j : Nat) (v : Value), ov[j]? = some v → c[p.O + o + j]? = some v) (hfit : p.O + o + k + nv.length ≤ c.size) :
    ∃ L', L' h.next = some ⟨p.B, p.O + o, p.E⟩ ∧ RH L' (happ h i o k cells e ps (olds ++ news)) (w.setRow p.B ((c.toList.take (p.O + o + k) ++ nv ++ c.toList.drop (p.O + o + k + nv.length)).toArray)) U ∧
      Step L L' h (happ h i o k cells e ps (olds ++ news)) w (w.setRow p.B ((c.toList.take (p.O + o + k) ++ nv ++ c.toList.drop (p.O + o + k + nv.length)).toArray)) := by
  have hn := r.fresh h.next (Nat.le_refl _) hU
  have hx : Ext L (lmNew L h.next ⟨p.B, p.O + o, p.E⟩) := ext_new hn
  generalize hc' : (c.toList.take (p.O + o + k) ++ nv ++ c.toList.drop (p.O + o + k + nv.length)).toArray = c'
  have hget : ∀ j, c'[j]? = if j < p.O + o + k then c[j]? else if j < p.O + o + k + nv.length then nv[j - (p.O + o + k)]? else c[j]? := by
    intro j; rw [← hc']; exact arr_splice c (p.O + o + k) nv hfit j
  have hsz : c'.size = c.size := by rw [← hc']; simp; omega
  have hnew := setRow_heap w p.B c c' e (0, 0) hc
  have hsize : (w.setRow p.B c').heap.size = w.heap.size := by simp [World.setRow]
  obtain ⟨c0, fz0, g1, g2, g3, g4⟩ := r.mem _ _ _ hi hp
  rw [hc] at g1; cases g1
  have hb' := @happ_get h i o k cells (olds ++ news) e ps
  have other : ∀ {j kj q}, j ≠ i → j ∉ ps → h.b.get j = some kj → L j = some q → p.B ≠ q.B := by
    intro j kj q hji hps hj hq hB
    obtain ⟨_, _, hm⟩ := r.sep i j _ _ p q hi hj hp hq (Ne.symm hji) rfl hB
    exact hps hm
  have lo : ∀ {j}, j ≠ h.next → lmNew L h.next ⟨p.B, p.O + o, p.E⟩ j = L j := fun e => lmNew_other e
  refine ⟨lmNew L h.next ⟨p.B, p.O + o, p.E⟩, lmNew_same _ _ _, ⟨?_, ?_, ?_, ?_, ?_⟩, ⟨hx, by rw [hsize]; exact Nat.le_refl _, ?_, ?_, ?_, Nat.le_succ _, rfl, rfl, rfl, fro_setRow hc⟩⟩
  · intro j kj q hj hq
    rcases hb' hj with ⟨rfl, rfl⟩ | ⟨hjn, rfl, rfl, hle, rfl⟩ | ⟨hjn, hji, hps, hj⟩
    · rw [lmNew_same] at hq; cases hq
      refine ⟨c', (0, 0), hnew, ⟨hsz.trans g2.1, ?_⟩, fun _ => rfl, fun n v hv => ?_⟩
      · show p.O + o ≤ p.E
        rw [← g2.1]; omega
      · obtain ⟨v', a, b⟩ := (hov.append hnv).get hv
        refine ⟨v', ?_, b.mono hx⟩
        show c'[p.O + o + n]? = some v'
        rw [hget]
        by_cases h1 : n < k
        · rw [if_pos (by omega)]
          rw [List.getElem?_append_left (by omega)] at a
          exact hcold _ _ a
        · rw [List.getElem?_append_right (by omega), hol] at a
          have hlt := (List.getElem?_eq_some_iff.1 a).1
          rw [if_neg (by omega), if_pos (by omega), show p.O + o + n - (p.O + o + k) = n - k by omega]
          exact a
    · rw [lo hjn, hp] at hq; cases hq
      refine ⟨c', (0, 0), hnew, ⟨hsz.trans g2.1, g2.2⟩, fun _ => rfl, fun n v hv => ?_⟩
      obtain ⟨v', a, b⟩ := g4 n v hv
      have hlt := (List.getElem?_eq_some_iff.1 hv).1
      exact ⟨v', by rw [hget, if_pos (by omega)]; exact a, b.mono hx⟩
    · rw [lo hjn] at hq
      exact ((r.mem _ _ _ hj hq).mono hx).keep (setRow_heap_other _ _ _ _ (Ne.symm (other hji hps hj hq)))
  · intro j l kj kl q s hj hl hq hs hjl hw hB
    rcases hb' hj with ⟨rfl, rfl⟩ | ⟨hjn, rfl, rfl, hle, rfl⟩ | ⟨hjn, hji, hps, hj⟩
    · rw [lmNew_same] at hq; cases hq
      rcases hb' hl with ⟨rfl, rfl⟩ | ⟨hln, rfl, rfl, hle, rfl⟩ | ⟨hln, hli, hlps, hl⟩
      · exact absurd rfl hjl
      · rw [lo hln, hp] at hs; cases hs
        exact ⟨rfl, by simp, by simp [Blk.ps]⟩
      · rw [lo hln] at hs
        exact absurd hB (other hli hlps hl hs)
    · rw [lo hjn, hp] at hq; cases hq
      rcases hb' hl with ⟨rfl, rfl⟩ | ⟨hln, rfl, _, hle, rfl⟩ | ⟨hln, hli, hlps, hl⟩
      · rw [lmNew_same] at hs; cases hs
        exact ⟨rfl, by simp, by simp [Blk.ps]⟩
      · exact absurd rfl hjl
      · rw [lo hln] at hs
        exact absurd hB (other hli hlps hl hs)
    · rw [lo hjn] at hq
      rcases hb' hl with ⟨rfl, rfl⟩ | ⟨hln, hli, _, hle, rfl⟩ | ⟨hln, hli, hlps, hl⟩
      · rw [lmNew_same] at hs; cases hs
        exact absurd hB.symm (other hji hps hj hq)
      · rw [lo hln, hli, hp] at hs; cases hs
        exact absurd hB.symm (other hji hps hj hq)
      · rw [lo hln] at hs
        exact r.sep j l _ _ q s hj hl hq hs hjl hw hB
  · intro j hj hju
    have : h.next < j := hj
    rw [lo (by omega)]
    exact r.fresh j (by omega) hju
  · intro j q hq
    rw [hsize]
    by_cases e : j = h.next
    · subst e; rw [lmNew_same] at hq; cases hq; exact r.below i p hp
    · rw [lo e] at hq; exact r.below j q hq
  · intro j kj hj
    rcases hb' hj with ⟨rfl, rfl⟩ | ⟨hjn, rfl, _⟩ | ⟨hjn, hji, hps, hj⟩
    · exact Nat.lt_succ_self _
    · exact Nat.lt_succ_of_lt (r.live _ _ hi)
    · exact Nat.lt_succ_of_lt (r.live _ _ hj)
  · intro B hB ho
    exact setRow_heap_other _ _ _ _ fun e => ho ⟨i, _, p, hi, rfl, hp, e.symm⟩
  · rintro B ⟨j, kj, q, hj, hw, hq, rfl⟩ hB
    rcases hb' hj with ⟨rfl, rfl⟩ | ⟨hjn, rfl, rfl, hle, rfl⟩ | ⟨hjn, hji, hps, hj⟩
    · rw [lmNew_same] at hq; cases hq
      exact ⟨i, _, p, hi, rfl, hp, rfl⟩
    · rw [lo hjn] at hq; exact ⟨_, _, q, hi, rfl, hq, rfl⟩
    · rw [lo hjn] at hq; exact ⟨_, _, q, hj, hw, hq, rfl⟩
  · intro j q hq
    by_cases e : j = h.next
    · subst e; rw [lmNew_same] at hq; cases hq; exact .inr ⟨Nat.le_refl _, Nat.lt_succ_self _, .inr ⟨i, _, p, hi, rfl, hp, rfl⟩⟩
    · rw [lo e] at hq; exact .inl hq

theorem xappN_sound (r : RH L h w U) (hU : ∀ v h' ds', K v h' ds' → h'.next ≤ U) {t tx ty e e2 : TypeId} {i : TypeInfo} {z : Value} (ht : P.underlying t = some (.slice e)) (htx : P.underlying tx = some (.slice e2)) (hi : P.info? e = some i) (hz : i.zero = some z)
    (hzs : z.cells.size = i.size) {s : AV} {s' : Value} (hs : RV L s s') {B o n xc : Nat} {news : List AV} {nv : List Value} (hnv : RVs L news nv) (hn : nv.length = n * i.size)
    (h0 : 0 < n) (hcell : ∀ (j : Nat) (v : Value), nv[j]? = some v → w.cell? ((⟨B, o, none⟩ : Addr).add j) = some v)
    (hk : xappN m i.bytes i.size e s n news h ds K) : SemOK P (Builtin.append_ #[t, tx] ty #[s', .slice (some ⟨B, o, none⟩) n xc]) L h w U K := by
  unfold xappN at hk
  split at hk <;> try exact hk.elim
  · obtain ⟨hb, hk⟩ := chk_of hk
    obtain ⟨b1, b2⟩ := band hb
    have b1 := Nat.le_of_ble_eq_true b1
    have b2 : n * i.bytes ≤ 140737488355328 := Nat.le_of_ble_eq_true b2
    cases hs
    refine app_fresh (ds := ds) (olds := []) (ov := []) r hU ht htx hi hz hzs hnv (cells_seg hcell hn rfl) .nil (by simp [Builtin.firstCells]) hn (by simp) (by omega) (by omega) (by rw [Nat.zero_add]; exact b2) _ (fun _ _ => row_get h _ e) ?_
    simp only [Nat.zero_add, List.nil_append]
    exact hk
  · rename_i a oa l cap ex sz'
    obtain ⟨hb, hk⟩ := chk_of hk
    have hb := Nat.eq_of_beq_eq_true hb
    obtain ⟨ds', hk⟩ := dcd_of hk
    cases hs with
    | slc _ _ _ _ _ _ p c hp hc hl hxx he0 =>
      have he : p.O + oa + c * i.size ≤ p.E := by rw [← hb]; exact he0
      cases hd : Nat.ble (Nat.add l n) cap with
      | true =>
        rw [hd] at hk
        have hd : l + n ≤ cap := Nat.le_of_ble_eq_true hd
        obtain ⟨h', w', a1, a2, a3, a4⟩ := hwr_sound (P := P) r hk hp hnv
        refine ⟨_, h', ds', L, _, w', a1, run_app_room ht htx hi (cells_seg hcell hn rfl) (by omega) ?_, .slc _ _ _ _ _ _ p c hp hc hd hxx he, a3, a4⟩
        rw [add_at]
        rw [Nat.add_assoc]; exact a2
      | false =>
        rw [hd] at hk
        have hd : ¬ l + n ≤ cap := fun h => by
          have : Nat.ble (Nat.add l n) cap = true := Nat.ble_eq_true_of_le h
          rw [this] at hd; cases hd
        simp only at hk
        split at hk <;> try exact hk.elim
        rename_i cells e' wr ps hrow_
        obtain ⟨hb2, hk⟩ := chk_of hk
        obtain ⟨c1, c2⟩ := band hb2
        obtain ⟨c2, c3⟩ := band c2
        obtain ⟨c3, c4⟩ := band c3
        have c1 := Nat.eq_of_beq_eq_true c1
        have c2 := Nat.eq_of_beq_eq_true c2
        have c3 : l + n ≤ 9223372036854775807 := Nat.le_of_ble_eq_true c3
        have c4 : (l + n) * i.bytes ≤ 140737488355328 := Nat.le_of_ble_eq_true c4
        rw [llen_eq] at c2
        rw [ltake_eq, ldrop_eq] at c2
        rw [ltake_eq, ldrop_eq, lapp_eq] at hk
        have c2 : (List.take (l * i.size) (List.drop oa cells)).length = l * i.size := c2
        obtain ⟨ov, q1, q2, q3⟩ := row_seg r hrow_ hp oa (l * i.size) c2
        subst c1
        cases ex with
        | true =>
          exact app_fresh r hU ht htx hi hz hzs hnv (cells_seg hcell hn rfl) q1 (cells_seg q3 q2 rfl) hn q2 (by rw [hxx rfl]; omega) c3 c4 _ (fun _ _ => row_get h _ e') hk
        | false =>
          cases wr with
          | false => exact hk.elim
          | true =>
            obtain ⟨ho, hk⟩ := out_of_ones hk
            by_cases hg : c < l + n
            · refine app_fresh (qs := [a]) r hU ht htx hi hz hzs hnv (cells_seg hcell hn rfl) q1 (cells_seg q3 q2 rfl) hn q2 hg c3 c4 _ (fun j kj hj => ?_) hk
              rcases happ_get hj with ⟨rfl, rfl⟩ | ⟨hjn, rfl, _, _, rfl⟩ | ⟨hjn, hji, hjp, hj⟩
              · exact .inl ⟨rfl, rfl⟩
              · refine .inr ⟨hjn, _, hrow_, .inr ⟨_, _, _, _, _, rfl, rfl⟩, fun q kq hq1 hq2 hq3 hq4 => ?_⟩
                rcases happ_get hq3 with ⟨rfl, _⟩ | ⟨_, rfl, _⟩ | ⟨_, _, hqp, _⟩
                · exact absurd rfl hq2
                · exact absurd rfl hq1
                · exact absurd hq4 hqp
              · exact .inr ⟨hjn, kj, hj, .inl rfl, fun _ _ _ _ _ h => h⟩
            · obtain ⟨c0, fz0, g1, g2, g3, g4⟩ := r.mem _ _ _ hrow_ hp
              have := g3 rfl; subst this
              have hcs : (l + n) * i.size ≤ c * i.size := Nat.mul_le_mul_right _ (by omega)
              have hmul : (l + n) * i.size = l * i.size + n * i.size := Nat.add_mul _ _ _
              have hfit : p.O + oa + l * i.size + nv.length ≤ c0.size := by rw [g2.1]; omega
              obtain ⟨L', e1, e2', e3⟩ := rh_happ r (hU _ _ _ hk) hrow_ hp (o := oa) (k := l * i.size) g1 q1 hnv q2 (fun j v hv => by have := q3 j v hv; rwa [add_at, cell_row g1] at this) hfit
              refine ⟨_, _, ds', L', _, _, hk, run_app_room ht htx hi (cells_seg hcell hn rfl) (by omega) ?_, .slc _ 0 (l + n) (l + n) false i.size _ c e1 (by omega) (Nat.le_refl _) (fun h => by cases h) ?_, e2', e3⟩
              · rw [add_at]
                have := run_storeCells_at P p.B (p.O + oa + l * i.size) e' nv 0 c0 w g1 (by simpa using hfit) (ones_rv hnv ho)
                simpa using this
              · show p.O + oa + 0 + c * i.size ≤ p.E
                omega
end
end
end Go.X

/- The operations of the abstract machine on memory, structs, slices. -/
import Derived.Test.YtjhbegfkeppcbaaXD
set_option autoImplicit false
namespace Go.X
noncomputable section

/-! Types -/
/-- how a type's values lie: none: no such type; some none: one cell; some (some n): a struct or array of n cells -/
def shapeT (P : Program) (t : TypeId) : Option (Option Nat) :=
  match P.underlying t with
  | some (.struct _) => some (some (P.cellsOf t))
  | some (.array _ _) => some (some (P.cellsOf t))
  | some _ => some none
  | none => none
def sizeT (P : Program) (t : TypeId) : Option Nat := (P.info? t).map (·.size)
def zcells (P : Program) (t : TypeId) : Option (List AV) := (P.info? t).bind fun i => i.zero.map fun z => lmap ofV0 z.cells.toList

section
variable {P : Program} {t : TypeId} {w : World}
theorem run_sizeT {n : Nat} (h : sizeT P t = some n) : (sizeOf t).run P w = .ok n w := by
  unfold sizeT at h
  cases hi : P.info? t with
  | none => simp [hi] at h
  | some i => simp [hi] at h; subst h; simp [sizeOf, typeInfo, hi]
theorem info_of_underlying {d : TypeDesc} (h : P.underlying t = some d) : ∃ i, P.info? t = some i := by
  unfold Program.underlying at h
  cases hi : P.info? t with
  | none => simp [hi] at h
  | some i => exact ⟨i, rfl⟩
theorem run_isAgg {s : Option Nat} (h : shapeT P t = some s) : (isAgg t).run P w = .ok s.isSome w ∧ ∀ n, s = some n → (sizeOf t).run P w = .ok n w := by
  unfold shapeT at h
  cases hu : P.underlying t with
  | none => simp [hu] at h
  | some d =>
    obtain ⟨i, hi⟩ := info_of_underlying hu
    have hc : P.cellsOf t = i.size := by simp [Program.cellsOf, hi]
    have hs : (sizeOf t).run P w = .ok i.size w := by simp [sizeOf, typeInfo, hi]
    cases d <;> simp [hu] at h <;> subst h <;> simp [isAgg, run_underlying hu, hs, hc]
theorem run_zcells {zs : List AV} (h : zcells P t = some zs) : ∃ z, (zeroValue t).run P w = .ok z w ∧ ∀ L, RVs L zs z.cells.toList := by
  unfold zcells at h
  cases hi : P.info? t with
  | none => simp [hi] at h
  | some i =>
    cases hz : i.zero with
    | none => simp [hi, hz] at h
    | some z =>
      simp [hi, hz] at h
      subst h
      refine ⟨z, by simp [zeroValue, typeInfo, hi, hz], fun L => ?_⟩
      rw [lmap_eq]; exact rvs_ofV0 L _
end

theorem cell_row {w : World} {B : Nat} {c : Array Value} {e : TypeId} {fz : Nat × Nat} (h : w.heap[B]? = some (.cells c e fz)) (o : Nat) : w.cell? ⟨B, o, none⟩ = c[o]? := by
  simp [World.cell?, h]

/-! Load, store, new variables -/
def xload (m : Bool) (P : Program) (t : TypeId) (x : AV) (h : H) (ds : List Bool) (K : KV) : Prop :=
  match x with
  | .ptr i o => match h.b.get i with
    | some (.row cells _ _ _) => match shapeT P t with
      | some none => match lget cells o with
        | some v => K v h ds
        | none => False
      | some (some n) => chk m (Nat.beq (llen (ltake (ldrop cells o) n)) n) (K (.agg (ltake (ldrop cells o) n)) h ds)
      | none => False
    | _ => False
  | _ => False
def xstore (m : Bool) (P : Program) (t : TypeId) (x v : AV) (h : H) (ds : List Bool) (K : KV) : Prop :=
  match x with
  | .ptr i o => match v.cells with
    | some cs => match sizeT P t with
      | some n => chk m (Nat.beq (llen cs) n) (hwr m h i o cs fun h => K (.tup []) h ds)
      | none => False
    | none => False
  | _ => False
def xalloc (P : Program) (t : TypeId) (h : H) (ds : List Bool) (K : KV) : Prop :=
  match zcells P t with
  | some zs => K (.ptr h.next 0) (hrow h zs t) ds
  | none => False
def xbox (t : TypeId) (v : AV) (h : H) (ds : List Bool) (K : KV) : Prop :=
  match v.cells with
  | some cs => K (.ptr h.next 0) (hrow h cs t) ds
  | none => False

section
variable {P : Program} {L : LM} {h : H} {w : World} {U : Nat} {m : Bool} {ds : List Bool} {K : KV}

/-- the cells of a row -/
theorem row_seg (r : RH L h w U) {i : Nat} {p : Loc} {cells : List AV} {e : TypeId} {wr : Bool} {ps : List Nat} (hi : h.b.get i = some (.row cells e wr ps)) (hp : L i = some p)
    (o n : Nat) (hn : ((cells.drop o).take n).length = n) : ∃ vs, RVs L ((cells.drop o).take n) vs ∧ vs.length = n ∧ ∀ j v, vs[j]? = some v → w.cell? ((⟨p.B, p.O + o, none⟩ : Addr).add j) = some v := by
  have hm := r.mem _ _ _ hi hp
  obtain ⟨c, fz, h1, h2, h3, h4⟩ := hm
  have hlen : ((c.toList.drop (p.O + o)).take n).length = n := by
    rcases Nat.eq_zero_or_pos n with h0 | h0
    · subst h0; simp
    · have hl : o + n ≤ cells.length := by simp at hn; omega
      obtain ⟨v', a, _⟩ := h4 (o + n - 1) _ (List.getElem?_eq_getElem (by omega))
      have := (Array.getElem?_eq_some_iff.1 a).1
      simp; omega
  refine ⟨(c.toList.drop (p.O + o)).take n, RVs.of_get (hn.trans hlen.symm) fun k a ha => ?_, hlen, fun j v hv => ?_⟩
  · have hk : k < n := by have := (List.getElem?_eq_some_iff.1 ha).1; omega
    rw [List.getElem?_take, if_pos hk, List.getElem?_drop] at ha
    obtain ⟨v', a1, a2⟩ := h4 _ _ ha
    refine ⟨v', ?_, a2⟩
    rw [List.getElem?_take, if_pos hk, List.getElem?_drop, Nat.add_assoc]; simpa using a1
  · rw [add_at, cell_row h1]
    have hj : j < n := by have := (List.getElem?_eq_some_iff.1 hv).1; omega
    rw [List.getElem?_take, if_pos hj, List.getElem?_drop] at hv
    simpa using hv
theorem ro_mk {P : Program} {s : Sem Value} {L : LM} {h : H} {w : World} {K : KV} {v : AV} {ds : List Bool} {v' : Value} (hk : K v h ds) (hr : s.run P w = .ok v' w) (hv : RV L v v') :
    ∃ v ds' v', K v h ds' ∧ s.run P w = .ok v' w ∧ RV L v v' := ⟨_, _, _, hk, hr, hv⟩
theorem xload_ro (r : RH L h w U) {t : TypeId} {x : AV} {x' : Value} (hx : RV L x x') (hk : xload m P t x h ds K) : ∃ v ds' v', K v h ds' ∧ (Instr.loadAt t x').run P w = .ok v' w ∧ RV L v v' := by
  unfold xload at hk
  split at hk <;> try exact hk.elim
  cases hx with
  | ptr i o p hp =>
    split at hk <;> try exact hk.elim
    rename_i cells e wr ps hi
    split at hk <;> try exact hk.elim
    · rename_i hs
      split at hk <;> try exact hk.elim
      rename_i v hv
      rw [lget_eq] at hv
      have hm := r.mem _ _ _ hi hp
      obtain ⟨c, fz, h1, h2, h3, h4⟩ := hm
      obtain ⟨v', a, b⟩ := h4 _ _ hv
      obtain ⟨g1, _⟩ := run_isAgg (w := w) hs
      exact ro_mk hk (by simp [Instr.loadAt, Instr.sureAddr, loadVar, g1, cell_row h1, a]) b
    · rename_i n hs
      obtain ⟨hn, hk⟩ := chk_of hk
      have hn := Nat.eq_of_beq_eq_true hn
      rw [llen_eq] at hn
      rw [ltake_eq, ldrop_eq] at hn hk
      obtain ⟨vs, a, b, d⟩ := row_seg r hi hp _ n hn
      obtain ⟨g1, g2⟩ := run_isAgg (w := w) hs
      have := run_loadCells_list (P := P) w _ vs d
      rw [b] at this
      exact ro_mk hk (v' := .agg vs.toArray) (by simp [Instr.loadAt, Instr.sureAddr, loadVar, g1, g2 n rfl, this]) (.agg _ _ (by simpa using a))
theorem xload_sound (r : RH L h w U) {t : TypeId} {x : AV} {x' : Value} (hx : RV L x x') (hk : xload m P t x h ds K) : SemOK P (Instr.loadAt t x') L h w U K :=
  let ⟨_, _, _, a, b, c⟩ := xload_ro r hx hk
  .same r a b c
theorem xstore_sound (r : RH L h w U) {t : TypeId} {x v : AV} {x' v' : Value} (hx : RV L x x') (hv : RV L v v') (hk : xstore m P t x v h ds K) :
    ∃ h' w', K (.tup []) h' ds ∧ (Instr.storeAt t x' v').run P w = .ok () w' ∧ RH L h' w' U ∧ Step L L h h' w w' := by
  unfold xstore at hk
  split at hk <;> try exact hk.elim
  cases hx with
  | ptr i o p hp =>
    split at hk <;> try exact hk.elim
    rename_i cs hcs
    split at hk <;> try exact hk.elim
    rename_i n hn
    obtain ⟨hl, hk⟩ := chk_of hk
    have hl := Nat.eq_of_beq_eq_true hl
    rw [llen_eq] at hl
    have hc := hv.cells hcs
    obtain ⟨h', w', a, b, c, d⟩ := hwr_sound (P := P) r hk hp hc
    have hsz : v'.cells.size = n := by rw [← hl, hc.length]; simp
    exact ⟨h', w', a, by simp [Instr.storeAt, Instr.sureAddr, storeVar, run_sizeT hn, hsz, b], c, d⟩
theorem xalloc_sound (r : RH L h w U) (hU : ∀ v h' ds', K v h' ds' → h'.next ≤ U) {t : TypeId} (hk : xalloc P t h ds K) : SemOK P (Instr.alloc t true (.tuple #[])) L h w U K := by
  unfold xalloc at hk
  split at hk <;> try exact hk.elim
  rename_i zs hz
  obtain ⟨z, g1, g2⟩ := run_zcells (w := w) hz
  obtain ⟨L', e1, e2, e3⟩ := rh_row r (hU _ _ _ hk) zs t z.cells (hc_of_rvs (g2 L))
  exact ⟨_, _, ds, L', _, _, hk, by simp [Instr.alloc, g1, newVar, newRow], .ptr _ 0 _ e1, e2, e3⟩
theorem xbox_sound (r : RH L h w U) (hU : ∀ v h' ds', K v h' ds' → h'.next ≤ U) {t : TypeId} {v : AV} {v' : Value} (hv : RV L v v') (hk : xbox t v h ds K) : SemOK P (Instr.box t v') L h w U K := by
  unfold xbox at hk
  split at hk <;> try exact hk.elim
  rename_i cs hcs
  obtain ⟨L', e1, e2, e3⟩ := rh_row r (hU _ _ _ hk) cs t v'.cells (hc_of_rvs (hv.cells hcs))
  exact ⟨_, _, ds, L', _, _, hk, by simp [Instr.box, newVar, newRow], .ptr _ 0 _ e1, e2, e3⟩
end

/-! Structs -/
def xpart (m : Bool) (P : Program) (t : TypeId) (cs : List AV) (off : Nat) (K : AV → Prop) : Prop :=
  match shapeT P t with
  | some none => match lget cs off with
    | some v => K v
    | none => False
  | some (some n) => chk m (Nat.beq (llen (ltake (ldrop cs off) n)) n) (K (.agg (ltake (ldrop cs off) n)))
  | none => False
theorem extract_list {α : Type} (a : Array α) (k n : Nat) : (a.extract k (k + n)).toList = (a.toList.drop k).take n := by
  rw [Array.toList_extract, List.extract_eq_take_drop, Nat.add_sub_cancel_left]
theorem xpart_sound {m : Bool} {P : Program} {L : LM} {w : World} {t : TypeId} {cs : List AV} {off : Nat} {K : AV → Prop} {vs : Array Value} (h : RVs L cs vs.toList) (hk : xpart m P t cs off K) :
    ∃ v v', K v ∧ (part t vs off).run P w = .ok v' w ∧ RV L v v' := by
  unfold xpart at hk
  split at hk <;> try exact hk.elim
  · rename_i hs
    split at hk <;> try exact hk.elim
    rename_i v hv
    rw [lget_eq] at hv
    obtain ⟨v', a, b⟩ := h.get hv
    obtain ⟨g1, _⟩ := run_isAgg (w := w) hs
    exact ⟨v, v', hk, by simp at a; simp [part, g1, a], b⟩
  · rename_i n hs
    obtain ⟨_, hk⟩ := chk_of hk
    rw [ltake_eq, ldrop_eq] at hk
    obtain ⟨g1, g2⟩ := run_isAgg (w := w) hs
    exact ⟨_, .agg (vs.extract off (off + n)), hk, by simp [part, g1, g2 n rfl], .agg _ _ (by rw [extract_list]; exact (h.drop off).take n)⟩
def fieldT (P : Program) (t : TypeId) (f : Nat) : Option Field := match P.underlying t with
  | some (.struct fs) => fs[f]?
  | _ => none
def xfield (m : Bool) (P : Program) (t : TypeId) (x : AV) (f : Nat) (h : H) (ds : List Bool) (K : KV) : Prop :=
  match x with
  | .agg cs => match fieldT P t f with
    | some fd => xpart m P fd.type cs fd.offset fun v => K v h ds
    | none => False
  | _ => False
def xfaddr (P : Program) (t : TypeId) (x : AV) (f : Nat) (h : H) (ds : List Bool) (K : KV) : Prop :=
  match x with
  | .ptr i o => match fieldT P t f with
    | some fd => match sizeT P fd.type with
      | some n => Bool.rec (K (.ptr i (Nat.add o fd.offset)) h ds) False (Nat.beq n 0)
      | none => False
    | none => False
  | _ => False
section
variable {P : Program} {L : LM} {h : H} {w : World} {U : Nat} {m : Bool} {ds : List Bool} {K : KV}
theorem fieldT_some {t : TypeId} {f : Nat} {fd : Field} (hf : fieldT P t f = some fd) : ∃ fs, P.underlying t = some (.struct fs) ∧ fs[f]? = some fd := by
  unfold fieldT at hf
  split at hf
  · rename_i fs hu; exact ⟨fs, hu, hf⟩
  · cases hf
theorem xfield_sound (r : RH L h w U) {t : TypeId} {x : AV} {x' : Value} {f : Nat} (hx : RV L x x') (hk : xfield m P t x f h ds K) : SemOK P (Instr.field t x' f) L h w U K := by
  unfold xfield at hk
  split at hk <;> try exact hk.elim
  cases hx with
  | agg cs xs hxs =>
    split at hk <;> try exact hk.elim
    rename_i fd hf
    obtain ⟨fs, hu, hfs⟩ := fieldT_some hf
    obtain ⟨v, v', a, b, c⟩ := xpart_sound (w := w) hxs hk
    exact .same r a (by simp [Instr.field, run_underlying hu, hfs, asAgg, b]) c
theorem xfaddr_sound (r : RH L h w U) {t : TypeId} {x : AV} {x' : Value} {f : Nat} (hx : RV L x x') (hk : xfaddr P t x f h ds K) : SemOK P (Instr.fieldAt t x' f) L h w U K := by
  unfold xfaddr at hk
  split at hk <;> try exact hk.elim
  cases hx with
  | ptr i o p hp =>
    split at hk <;> try exact hk.elim
    rename_i fd hf
    split at hk <;> try exact hk.elim
    rename_i n hn
    obtain ⟨fs, hu, hfs⟩ := fieldT_some hf
    cases h0 : Nat.beq n 0 with
    | true => rw [h0] at hk; exact hk.elim
    | false =>
      rw [h0] at hk
      have h0' : ¬ n = 0 := fun e => by subst e; cases h0
      refine .same r hk ?_ (.ptr _ _ p hp)
      simp [Instr.fieldAt, run_underlying hu, hfs, Instr.sureAddr, fieldPlace, run_sizeT hn, h0', add_at, Nat.add_assoc]
end

/-! Building -/
def xfill (place : Nat → Option (Nat × Nat)) (cells : List AV) (parts : List (Nat × AV)) : Option (List AV) :=
  List.rec (motive := fun _ => List AV → Option (List AV)) (fun cells => some cells) (fun p _ ih cells =>
    match place p.1 with
    | some (off, size) => match p.2.cells with
      | some cs => Bool.rec none (ih (lput cells cs off)) (Bool.and (Nat.beq (llen cs) size) (Nat.ble (Nat.add off (llen cs)) (llen cells)))
      | none => none
    | none => none) parts cells
def RPs (L : LM) (a : List (Nat × AV)) (b : List (Nat × Value)) : Prop := List.map Prod.fst a = List.map Prod.fst b ∧ RVs L (List.map Prod.snd a) (List.map Prod.snd b)
theorem foldl_put (vs : List Value) : ∀ (off j : Nat) (c : Array Value), off + j + vs.length ≤ c.size →
    ((vs.zipIdx j).foldl (fun cs x => cs.setIfInBounds (off + x.2) x.1) c).toList = c.toList.take (off + j) ++ (vs ++ c.toList.drop (off + j + vs.length)) := by
  induction vs with
  | nil => intro off j c hl; simp
  | cons v vs ih =>
    intro off j c hl
    simp only [List.length_cons] at hl
    rw [List.zipIdx_cons, List.foldl_cons, ih off (j + 1) _ (by simp; omega), Array.toList_setIfInBounds]
    apply List.ext_getElem?
    intro n
    have e1 := list_splice (c.toList.set (off + j) v) vs (off + (j + 1)) (by simp; omega) n
    have e2 := list_splice c.toList (v :: vs) (off + j) (by simp; omega) n
    rw [e1]
    simp only [List.length_cons] at e2
    rw [List.length_cons, e2]
    simp only [List.getElem?_set]
    by_cases h1 : n < off + j
    · rw [if_pos (by omega), if_pos h1, if_neg (by omega)]
    · by_cases h2 : n = off + j
      · subst h2; rw [if_pos (by omega), if_pos rfl, if_pos (by simp; omega), if_neg h1, if_pos (by omega)]; simp
      · rw [if_neg (by omega), if_neg h1]
        by_cases h3 : n < off + (j + 1) + vs.length
        · rw [if_pos h3, if_pos (by omega)]
          rw [show n - (off + j) = (n - (off + (j + 1))) + 1 by omega]; simp
        · rw [if_neg h3, if_neg (by omega), if_neg (by omega)]
theorem RVs.put {L : LM} {cs xs : List AV} {c vs : List Value} (h : RVs L cs c) (hv : RVs L xs vs) (k : Nat) : RVs L (cs.take k ++ (xs ++ cs.drop (k + xs.length))) (c.take k ++ (vs ++ c.drop (k + vs.length))) := by
  have := hv.length
  rw [← this]
  exact (h.take k).append (hv.append (h.drop _))
theorem xfill_sound {L : LM} (place : Nat → Option (Nat × Nat)) : ∀ (parts : List (Nat × AV)) (parts' : List (Nat × Value)) (cells : List AV) (c : Array Value) (out : List AV),
    RPs L parts parts' → RVs L cells c.toList → xfill place cells parts = some out → ∃ out', Instr.fill place c parts' = some out' ∧ RVs L out out'.toList
  | [], parts', cells, c, out, hp, hc, ho => by
    obtain ⟨h1, h2⟩ := hp
    cases parts' with
    | nil => cases ho; exact ⟨c, rfl, hc⟩
    | cons => cases h2
  | (i, a) :: parts, parts', cells, c, out, hp, hc, ho => by
    obtain ⟨h1, h2⟩ := hp
    cases parts' with
    | nil => cases h2
    | cons q parts' =>
      obtain ⟨j, v⟩ := q
      simp at h1
      obtain ⟨rfl, h1⟩ := h1
      cases h2 with
      | cons _ _ _ _ ha hs =>
        have ho : (match place i with
          | some (off, size) => match a.cells with
            | some cs => Bool.rec none (xfill place (lput cells cs off) parts) (Bool.and (Nat.beq (llen cs) size) (Nat.ble (Nat.add off (llen cs)) (llen cells)))
            | none => none
          | none => none) = some out := ho
        split at ho <;> try cases ho
        rename_i off size hpl
        split at ho <;> try cases ho
        rename_i cs hcs
        have hcv := ha.cells hcs
        cases hb : Bool.and (Nat.beq (llen cs) size) (Nat.ble (Nat.add off (llen cs)) (llen cells)) with
        | false => rw [hb] at ho; cases ho
        | true =>
          rw [hb] at ho
          have hb : (Nat.beq (llen cs) size && Nat.ble (Nat.add off (llen cs)) (llen cells)) = true := hb
          rw [Bool.and_eq_true] at hb
          have h3 := Nat.eq_of_beq_eq_true hb.1
          have h4 := Nat.le_of_ble_eq_true hb.2
          rw [llen_eq] at h3
          rw [llen_eq, llen_eq] at h4
          have h4 : off + cs.length ≤ cells.length := h4
          have hl := hcv.length
          have hl2 := hc.length
          have e1 : v.cells.size = size := by rw [← h3, hl]; simp
          have e2 : ¬ (off + v.cells.size > c.size) := by
            have a1 : v.cells.size = cs.length := by rw [hl]; simp
            have a2 : c.size = cells.length := by rw [hl2]; simp
            omega
          have e3 : ((v.cells.zipIdx.foldl (fun cs x => cs.setIfInBounds (off + x.2) x.1) c)).toList = c.toList.take off ++ (v.cells.toList ++ c.toList.drop (off + v.cells.toList.length)) := by
            rw [← Array.foldl_toList, Array.toList_zipIdx, foldl_put _ off 0 c (by simp; omega)]
            simp
          rw [lput_eq] at ho
          have hnext : RVs L (cells.take off ++ (cs ++ cells.drop (off + cs.length))) (v.cells.zipIdx.foldl (fun cs x => cs.setIfInBounds (off + x.2) x.1) c).toList := by
            rw [e3]; exact hc.put hcv off
          obtain ⟨out', o1, o2⟩ := xfill_sound place parts parts' _ _ out ⟨h1, hs⟩ hnext ho
          refine ⟨out', ?_, o2⟩
          simp only [Instr.fill, hpl]
          rw [if_neg (by simp [e1]; omega)]
          exact o1
end
end Go.X

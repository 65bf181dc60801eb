/- The operations of the abstract machine on slices; building; conversions; equality. -/
import Derived.Test.YtjhbegfkeppcbaaXE
set_option autoImplicit false
namespace Go.X
noncomputable section

def inB (n : Int) (len : Nat) : Bool := Int.rec (fun k => Nat.ble (Nat.succ k) len) (fun _ => false) n
theorem inB_eq (n : Int) (len : Nat) : inB n len = decide (0 ≤ n ∧ n < len) := by
  cases n with
  | ofNat m =>
    show Nat.ble (m + 1) len = _
    rw [Bool.eq_iff_iff, Nat.ble_eq, decide_eq_true_iff]; simp; omega
  | negSucc m =>
    show false = _
    rw [Bool.eq_iff_iff, decide_eq_true_iff]; simp
theorem inB_true {n : Int} {len : Nat} (h : inB n len = true) : 0 ≤ n ∧ n < len := by rw [inB_eq] at h; simpa using h

/-! Building -/
def placeOf (P : Program) (t : TypeId) : Option (Nat → Option (Nat × Nat)) :=
  match P.underlying t with
  | some (.struct fields) => (fields.toList.mapM (fun f => (P.info? f.type).map fun i => (f.offset, i.size))).map fun l i => lget l i
  | some (.array _ e) => (P.info? e).map fun ie i => some (Nat.mul i ie.size, ie.size)
  | _ => none
def xbuild (P : Program) (t : TypeId) (parts : List (Nat × AV)) (h : H) (ds : List Bool) (K : KV) : Prop :=
  match zcells P t with
  | some zs => match placeOf P t with
    | some pl => match xfill pl zs parts with
      | some cs => K (.agg cs) h ds
      | none => False
    | none => False
  | none => False
def elemT (P : Program) (t : TypeId) : Option TypeId := match P.underlying t with
  | some (.slice e) => some e
  | _ => none
def xbslice (m : Bool) (P : Program) (t : TypeId) (len : Nat) (parts : List (Nat × AV)) (h : H) (ds : List Bool) (K : KV) : Prop :=
  match elemT P t with
  | some e => match sizeT P e with
    | some sz => match zcells P e with
      | some zs => match xfill (fun i => some (Nat.mul i sz, sz)) (lrep len zs) parts with
        | some cs => chk m (Bool.and (Nat.ble (Nat.mul len sz) 16777216) (Bool.and (Nat.beq (llen zs) sz) (Nat.beq (llen cs) (Nat.mul len sz)))) (K (.slc h.next 0 len len true sz) (hrow h cs e) ds)
        | none => False
      | none => False
    | none => False
  | none => False
section
variable {P : Program} {L : LM} {h : H} {w : World} {U : Nat} {m : Bool} {ds : List Bool} {K : KV}
theorem zcells_some {t : TypeId} {zs : List AV} (hz : zcells P t = some zs) : ∃ i z, P.info? t = some i ∧ i.zero = some z ∧ ∀ L, RVs L zs z.cells.toList := by
  unfold zcells at hz
  cases hi : P.info? t with
  | none => simp [hi] at hz
  | some i =>
    cases hzz : i.zero with
    | none => simp [hi, hzz] at hz
    | some z =>
      simp [hi, hzz] at hz
      subst hz
      exact ⟨i, z, rfl, hzz, fun L => by rw [lmap_eq]; exact rvs_ofV0 L _⟩
theorem sizeT_some {t : TypeId} {n : Nat} (h : sizeT P t = some n) : ∃ i, P.info? t = some i ∧ i.size = n := by
  unfold sizeT at h
  cases hi : P.info? t with
  | none => simp [hi] at h
  | some i => simp [hi] at h; exact ⟨i, rfl, h⟩
theorem elemT_some {t e : TypeId} (h : elemT P t = some e) : P.underlying t = some (.slice e) := by
  unfold elemT at h
  split at h
  · rename_i hu; cases h; exact hu
  · cases h
theorem xbuild_sound (r : RH L h w U) {t : TypeId} {parts : List (Nat × AV)} {parts' : Array (Nat × Value)} (hp : RPs L parts parts'.toList) (hk : xbuild P t parts h ds K) :
    SemOK P (Instr.build t parts') L h w U K := by
  unfold xbuild at hk
  split at hk <;> try exact hk.elim
  rename_i zs hz
  split at hk <;> try exact hk.elim
  rename_i pl hpl
  split at hk <;> try exact hk.elim
  rename_i cs hcs
  obtain ⟨it, z, hi, hzz, hrv⟩ := zcells_some hz
  obtain ⟨out, ho, hr⟩ := xfill_sound pl parts parts'.toList zs z.cells cs hp (hrv L) hcs
  refine .same r hk (v' := .agg out) (run_build w t parts' out ?_) (.agg _ _ hr)
  unfold placeOf at hpl
  unfold Program.built
  rw [hi]
  split at hpl
  · rename_i fields hu
    rw [hu]
    cases hm : fields.toList.mapM (fun f => (P.info? f.type).map fun i => (f.offset, i.size)) with
    | none => rw [hm] at hpl; cases hpl
    | some l =>
      rw [hm] at hpl; cases hpl
      simp only [hzz, hm]
      rw [← ho]; congr 1; funext i; show _ = lget l i; rw [lget_eq]; simp
  · rename_i n e hu
    rw [hu]
    cases hie : P.info? e with
    | none => rw [hie] at hpl; cases hpl
    | some ie =>
      rw [hie] at hpl; cases hpl
      simp only [hzz, hie]
      rw [← ho]; rfl
  · cases hpl
theorem lrep_succ {α : Type} (n : Nat) (l : List α) : lrep (n + 1) l = l ++ lrep n l := by
  show lapp l (lrep n l) = _
  rw [lapp_eq]
theorem lrep_length {α : Type} (n : Nat) (l : List α) : (lrep n l).length = n * l.length := by
  induction n with
  | zero => simp; rfl
  | succ n ih => rw [lrep_succ, List.length_append, ih, Nat.succ_mul]; omega
theorem lrep_get {α : Type} (n : Nat) (l : List α) : ∀ k, k < n * l.length → (lrep n l)[k]? = l[k % l.length]? := by
  induction n with
  | zero => intro k hk; omega
  | succ n ih =>
    intro k hk
    rw [Nat.succ_mul] at hk
    rw [lrep_succ]
    by_cases h1 : k < l.length
    · rw [List.getElem?_append_left h1, Nat.mod_eq_of_lt h1]
    · rw [List.getElem?_append_right (by omega), ih _ (by omega)]
      congr 1
      rw [Nat.mod_eq_sub_mod (by omega : k ≥ l.length)]
theorem rvs_rep {zs : List AV} {z : Array Value} (hz : RVs L zs z.toList) (n : Nat) :
    RVs L (lrep n zs) ((Array.range (n * z.size)).map (fun i => z[i % z.size]!)).toList := by
  have hl := hz.length
  have hl' : zs.length = z.size := by rw [hl]; simp
  refine RVs.of_get (by rw [lrep_length]; simp [hl']) fun k a hk => ?_
  have hk' : k < n * zs.length := by have := (List.getElem?_eq_some_iff.1 hk).1; rwa [lrep_length] at this
  rw [lrep_get _ _ _ hk', hl'] at hk
  obtain ⟨v, e1, e2⟩ := hz.get hk
  refine ⟨v, ?_, e2⟩
  have hz0 : 0 < z.size := by
    rcases Nat.eq_zero_or_pos z.size with e | e
    · rw [hl', e] at hk'; omega
    · exact e
  have hm : k % z.size < z.size := Nat.mod_lt _ hz0
  simp [hl' ▸ hk']
  simp at e1
  rw [Array.getElem?_eq_getElem hm] at e1
  simp [hm]
  exact Option.some.inj e1
theorem xbslice_sound (r : RH L h w U) (hU : ∀ v h' ds', K v h' ds' → h'.next ≤ U) {t : TypeId} {len : Nat} {parts : List (Nat × AV)} {parts' : Array (Nat × Value)} (hp : RPs L parts parts'.toList) (hk : xbslice m P t len parts h ds K) :
    SemOK P (Instr.buildSlice t len parts') L h w U K := by
  unfold xbslice at hk
  split at hk <;> try exact hk.elim
  rename_i e he
  split at hk <;> try exact hk.elim
  rename_i sz hsz
  split at hk <;> try exact hk.elim
  rename_i zs hz
  split at hk <;> try exact hk.elim
  rename_i cs hcs
  obtain ⟨hb, hk⟩ := chk_of hk
  have hb : (Nat.ble (Nat.mul len sz) 16777216 && (Nat.beq (llen zs) sz && Nat.beq (llen cs) (Nat.mul len sz))) = true := hb
  rw [Bool.and_eq_true, Bool.and_eq_true] at hb
  have hb1 : len * sz ≤ 16777216 := Nat.le_of_ble_eq_true hb.1
  have hb2 := Nat.eq_of_beq_eq_true hb.2.1
  have hb3 := Nat.eq_of_beq_eq_true hb.2.2
  rw [llen_eq] at hb2 hb3
  have hb3 : cs.length = len * sz := hb3
  obtain ⟨it, z, hi, hzz, hrv⟩ := zcells_some hz
  have hzl : z.cells.size = sz := by have := (hrv L).length; simp at this; omega
  have hrep := rvs_rep (hrv L) len
  rw [hzl] at hrep
  obtain ⟨out, ho, hr⟩ := xfill_sound (fun i => some (Nat.mul i sz, sz)) parts parts'.toList _ _ cs hp hrep hcs
  have ho : Instr.fill (fun i => some (i * sz, sz)) (Array.map (fun i => z.cells[i % sz]!) (Array.range (len * sz))) parts'.toList = some out := ho
  obtain ⟨L', e1, e2, e3⟩ := rh_row r (hU _ _ _ hk) cs e out (hc_of_rvs hr)
  have hol : out.size = len * sz := by have := hr.length; simp at this; omega
  refine ⟨_, _, ds, L', _, _, hk, ?_, .slc _ 0 len len true sz _ len e1 (Nat.le_refl _) (Nat.le_refl _) (fun _ => rfl) (by simp [hol]), e2, e3⟩
  have hng : ¬ (len * sz > 2 ^ 24) := by simp; omega
  simp only [Instr.buildSlice, Sem.run_bind, run_underlying (elemT_some he), Result.andThen_ok, run_sizeT hsz, hng, if_false]
  by_cases h0 : len * sz = 0
  · have e0 : (Array.map (fun x => (#[] : Array Value)[x % (#[] : Array Value).size]!) (Array.range (len * sz))) = (Array.map (fun i => z.cells[i % sz]!) (Array.range (len * sz))) := by rw [h0]; simp
    rw [if_pos h0]
    simp only [Sem.run_bind, Sem.run_pure, Result.andThen_ok, e0, ho, newRow, run_newObj]
    rfl
  · rw [if_neg h0]
    simp only [Sem.run_bind, Sem.run_pure, Result.andThen_ok, zeroValue, typeInfo, run_program, hi, hzz, hzl, ho, newRow, run_newObj]
    rfl
end

/-! Indexes -/
def xiaddr (m : Bool) (P : Program) (t : TypeId) (x ix : AV) (h : H) (ds : List Bool) (K : KV) : Prop :=
  match ix with
  | .int _ n => match P.underlying t with
    | some (.slice e) => match x with
      | .slc i o len _ _ _ => match sizeT P e with
        | some z => chk m (inB n len) (K (.ptr i (Nat.add o (Nat.mul n.toNat z))) h ds)
        | none => False
      | _ => False
    | some (.array len e) => match x with
      | .ptr i o => match sizeT P e with
        | some z => chk m (inB n len) (K (.ptr i (Nat.add o (Nat.mul n.toNat z))) h ds)
        | none => False
      | _ => False
    | _ => False
  | _ => False
def xindex (m : Bool) (P : Program) (t : TypeId) (x ix : AV) (h : H) (ds : List Bool) (K : KV) : Prop :=
  match ix with
  | .int _ n => match P.underlying t with
    | some .string => match x with
      | .str l v => chk m (inB n l) (K (.int .u8 (Int.ofNat (byteAt v n.toNat))) h ds)
      | _ => False
    | some (.array len e) => match x with
      | .agg cs => match sizeT P e with
        | some z => chk m (inB n len) (xpart m P e cs (Nat.mul n.toNat z) fun v => K v h ds)
        | none => False
      | _ => False
    | _ => False
  | _ => False
section
variable {P : Program} {L : LM} {h : H} {w : World} {U : Nat} {m : Bool} {ds : List Bool} {K : KV}
theorem xiaddr_sound (r : RH L h w U) {t : TypeId} {x ix : AV} {x' ix' : Value} (hx : RV L x x') (hix : RV L ix ix') (hk : xiaddr m P t x ix h ds K) : SemOK P (Instr.indexAt t x' ix') L h w U K := by
  unfold xiaddr at hk
  split at hk <;> try exact hk.elim
  cases hix with
  | int k n =>
    split at hk <;> try exact hk.elim
    · rename_i e hu
      split at hk <;> try exact hk.elim
      cases hx with
      | slc i o len cap ex sz p c hp hc hl hxx he =>
        split at hk <;> try exact hk.elim
        rename_i z hz
        obtain ⟨hb, hk⟩ := chk_of hk
        have hb := inB_true hb
        refine .same r hk ?_ (.ptr _ _ p hp)
        simp [Instr.indexAt, asIntOf, run_underlying hu, hb, run_sizeT hz, add_at, Nat.add_assoc]
    · rename_i len e hu
      split at hk <;> try exact hk.elim
      cases hx with
      | ptr i o p hp =>
        split at hk <;> try exact hk.elim
        rename_i z hz
        obtain ⟨hb, hk⟩ := chk_of hk
        have hb := inB_true hb
        refine .same r hk ?_ (.ptr _ _ p hp)
        simp [Instr.indexAt, asIntOf, run_underlying hu, hb, run_sizeT hz, add_at, Nat.add_assoc, Instr.sureAddr]
theorem str_get {s : ByteArray} {l v : Nat} (hs : strOf s = .str l v) {n : Nat} (hn : n < l) : ∃ b, s[n]? = some b ∧ byteAt v n = b.toNat := by
  obtain ⟨e1, e2, rfl⟩ := strOf_str hs
  have h1 : n < s.data.toList.length := by omega
  refine ⟨s.data.toList[n], ?_, byteAt_eq _ _ _ (List.getElem?_eq_getElem h1)⟩
  have h2 : n < s.size := by omega
  rw [getElem?_pos s n h2]; rfl
theorem xindex_sound (r : RH L h w U) {t : TypeId} {x ix : AV} {x' ix' : Value} (hx : RV L x x') (hix : RV L ix ix') (hk : xindex m P t x ix h ds K) : SemOK P (Instr.index t x' ix') L h w U K := by
  unfold xindex at hk
  split at hk <;> try exact hk.elim
  rename_i k n
  cases hix with
  | int =>
    split at hk <;> try exact hk.elim
    · rename_i hu
      split at hk <;> try exact hk.elim
      cases hx with
      | str l v s hs =>
        obtain ⟨hb, hk⟩ := chk_of hk
        have hb := inB_true hb
        obtain ⟨b, g1, g2⟩ := str_get hs (n := n.toNat) (by omega)
        rw [g2] at hk
        refine .same r hk (v' := .int .u8 b.toNat) ?_ (.int _ _)
        simp [Instr.index, asIntOf, run_underlying hu, hb, g1]
    · rename_i len e hu
      split at hk <;> try exact hk.elim
      cases hx with
      | agg cs xs hxs =>
        split at hk <;> try exact hk.elim
        rename_i z hz
        obtain ⟨hb, hk⟩ := chk_of hk
        have hb := inB_true hb
        obtain ⟨v, v', g1, g2, g3⟩ := xpart_sound (w := w) hxs hk
        refine .same r g1 ?_ g3
        have g2 : (part e xs (n.toNat * z)).run P w = .ok v' w := g2
        simp [Instr.index, asIntOf, run_underlying hu, hb, run_sizeT hz, g2]
end
end
end Go.X

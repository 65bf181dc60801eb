/- The operations of the abstract machine, all of them in one function. -/
import Derived.Test.YtjhbegfkeppcbaaXI
import Derived.Laws.Build
set_option autoImplicit false
namespace Go.X
noncomputable section
section
variable {P : Program} {L : LM} {h : H} {w : World} {U : Nat} {m : Bool} {ds : List Bool} {K : KV}
theorem xapp_keep (r : RH L h w U) {t tx ty e e2 : TypeId} {i : TypeInfo} (ht : P.underlying t = some (.slice e)) (htx : P.underlying tx = some (.slice e2)) (hi : P.info? e = some i)
    {s : AV} {s' : Value} (hs : RV L s s') {xb : Option Addr} {xc : Nat} (hk : K s h ds) (hn : s = .nils ∨ (∃ i o l cap ex sz, s = .slc i o l cap ex sz)) :
    SemOK P (Builtin.append_ #[t, tx] ty #[s', .slice xb 0 xc]) L h w U K := by
  rcases hn with rfl | ⟨i, o, l, cap, ex, sz, rfl⟩
  · cases hs
    exact .same r hk (run_app_none ht htx hi (Nat.le_refl _) (fun a h => by cases h)) .nils
  · cases hs with
    | slc _ _ _ _ _ _ p c hp hc hl hxx he =>
      exact .same r hk (run_app_none ht htx hi (by omega) (fun a h => by cases h; rfl)) (.slc _ _ _ _ _ _ p c hp hc hl hxx he)
theorem xapp_emp (r : RH L h w U) {t tx ty e e2 : TypeId} {i : TypeInfo} (ht : P.underlying t = some (.slice e)) (htx : P.underlying tx = some (.slice e2)) (hi : P.info? e = some i)
    {s' : Value} (hs : RV L .emp s') {xb : Option Addr} {xc : Nat} (hk : K .emp h ds) :
    SemOK P (Builtin.append_ #[t, tx] ty #[s', .slice xb 0 xc]) L h w U K := by
  cases hs with
  | emp a c =>
    have hf : ∀ w : World, (Builtin.firstCells i.size 0 (.slice xb 0 xc)).run P w = .ok #[] w := by
      intro w; cases xb <;> simp [Builtin.firstCells, loadCells, loadCellsFrom]
    refine .same r hk (v' := .slice a 0 c) ?_ (.emp _ _)
    cases a <;> simp [Builtin.append_, run_underlying ht, run_underlying htx, sizeOf, typeInfo, hi, Builtin.lenOf, hf, storeCells]
theorem xapp_sound (r : RH L h w U) (hU : ∀ v h' ds', K v h' ds' → h'.next ≤ U) {t tx ty : TypeId} {s x : AV} {s' x' : Value} (hs : RV L s s') (hx : RV L x x') (hk : xapp m P t tx s x h ds K) :
    SemOK P (Builtin.append_ #[t, tx] ty #[s', x']) L h w U K := by
  unfold xapp at hk
  split at hk <;> try exact hk.elim
  rename_i e e2 he he2
  have ht := elemT_some he
  have htx := elemT_some he2
  split at hk <;> try exact hk.elim
  rename_i sz zs by_ hsz hzs hby
  obtain ⟨i, z, hi, hz, hrv⟩ := zcells_some hzs
  obtain ⟨i', hi', hs'⟩ := sizeT_some hsz
  rw [hi] at hi'; cases hi'
  obtain ⟨i', hi', hy⟩ := bytesT_some hby
  rw [hi] at hi'; cases hi'
  split at hk <;> try exact hk.elim
  · cases hx
    split at hk <;> try exact hk.elim
    · exact xapp_keep r ht htx hi hs hk (.inl rfl)
    · exact xapp_keep r ht htx hi hs hk (.inr ⟨_, _, _, _, _, _, rfl⟩)
    · exact xapp_emp r ht htx hi hs hk
  · cases hx with
    | emp a c =>
      split at hk <;> try exact hk.elim
      · exact xapp_keep r ht htx hi hs hk (.inl rfl)
      · exact xapp_keep r ht htx hi hs hk (.inr ⟨_, _, _, _, _, _, rfl⟩)
      · exact xapp_emp r ht htx hi hs hk
  · rename_i j oj n cj exj szj
    obtain ⟨ds', hk⟩ := dcd_of hk
    cases hx with
    | slc _ _ _ _ _ _ p c hp hc hl hxx he0 =>
      cases h0 : Nat.beq n 0 with
      | true =>
        rw [h0] at hk
        have h0 := Nat.eq_of_beq_eq_true h0
        rw [h0]
        simp only at hk
        split at hk <;> try exact hk.elim
        · exact xapp_keep r ht htx hi hs hk (.inl rfl)
        · exact xapp_keep r ht htx hi hs hk (.inr ⟨_, _, _, _, _, _, rfl⟩)
        · exact xapp_emp r ht htx hi hs hk
      | false =>
        rw [h0] at hk
        have h0' : 0 < n := by
          rcases Nat.eq_zero_or_pos n with e | e
          · subst e; cases h0
          · exact e
        simp only at hk
        split at hk <;> try exact hk.elim
        rename_i cells e' wr ps hrow_
        obtain ⟨hb, hk⟩ := chk_of hk
        obtain ⟨b1, b2⟩ := band hb
        have b1 := Nat.eq_of_beq_eq_true b1
        have b2 := Nat.eq_of_beq_eq_true b2
        rw [llen_eq] at b1 b2
        rw [ltake_eq, ldrop_eq] at b2 hk
        obtain ⟨nv, q1, q2, q3⟩ := row_seg r hrow_ hp oj (n * sz) b2
        have hzl : z.cells.size = i.size := by have := (hrv L).length; simp at this; omega
        rw [← hs', ← hy] at hk
        rw [← hs'] at q1 q2
        exact xappN_sound r hU ht htx hi hz hzl hs q1 q2 h0' q3 hk
end

/-! len, conversions, unary operations -/
def xlen (P : Program) (t : TypeId) (x : AV) (h : H) (ds : List Bool) (K : KV) : Prop :=
  match P.underlying t with
  | some .string => match x with
    | .str n _ => K (.int .i64 (Int.ofNat n)) h ds
    | _ => False
  | some (.slice _) => match x with
    | .slc _ _ n _ _ _ => K (.int .i64 (Int.ofNat n)) h ds
    | .nils => K (.int .i64 0) h ds
    | .emp => K (.int .i64 0) h ds
    | _ => False
  | some (.array n _) => K (.int .i64 (Int.ofNat n)) h ds
  | some (.map _ _) => match x with
    | .nilm => K (.int .i64 0) h ds
    | .map i => match h.b.get i with
      | some (.map es) => K (.int .i64 (Int.ofNat (llen es))) h ds
      | _ => False
    | _ => False
  | _ => False
def xconv (m : Bool) (P : Program) (s t : TypeId) (x : AV) (h : H) (ds : List Bool) (K : KV) : Prop :=
  match P.underlying s, P.underlying t with
  | some _, some (.int k) => match x with
    | .int _ n => ari m k n ds fun v ds => K v h ds
    | _ => False
  | some _, some .string => match x with
    | .str n v => K (.str n v) h ds
    | _ => False
  | _, _ => False
def xun (m : Bool) (op : UnOp) (x : AV) (h : H) (ds : List Bool) (K : KV) : Prop :=
  match op, x with
  | .neg, .int k n => ari m k (0 - n) ds fun v ds => K v h ds
  | .xor, .int k n => xbits m .xor k (if k.signed then -1 else k.max) n ds fun v ds => K v h ds
  | .not, .bool b => K (.bool (Bool.not b)) h ds
  | _, _ => False
section
variable {P : Program} {L : LM} {h : H} {w : World} {U : Nat} {m : Bool} {ds : List Bool} {K : KV}
theorem REs.length {L : LM} : ∀ {es : List (AV × AV)} {ms : List MapEntry}, REs L es ms → es.length = ms.length
  | _, _, .nil => rfl
  | _, _, .cons _ _ _ _ _ hs => congrArg (· + 1) (REs.length hs)
theorem xlen_sound (r : RH L h w U) {t ty : TypeId} {x : AV} {x' : Value} (hx : RV L x x') (hk : xlen P t x h ds K) : SemOK P (Builtin.len_ #[t] ty #[x']) L h w U K := by
  unfold xlen at hk
  split at hk <;> try exact hk.elim
  · rename_i hu
    split at hk <;> try exact hk.elim
    cases hx with
    | str n v s hs =>
      obtain ⟨e1, _, _⟩ := strOf_str hs
      exact .same r hk (by simp [Builtin.len_, run_underlying hu, goInt, e1]) (.int _ _)
  · rename_i hu
    split at hk <;> try exact hk.elim
    · cases hx; exact .same r hk (by simp [Builtin.len_, run_underlying hu, goInt]) (.int _ _)
    · cases hx; exact .same r hk (by simp [Builtin.len_, run_underlying hu, goInt]) (.int _ _)
    · cases hx; exact .same r hk (by simp [Builtin.len_, run_underlying hu, goInt]) (.int _ _)
  · rename_i n e hu
    exact .same r hk (by cases x' <;> simp [Builtin.len_, run_underlying hu, goInt]) (.int _ _)
  · rename_i k v hu
    split at hk <;> try exact hk.elim
    · cases hx; exact .same r hk (by simp [Builtin.len_, run_underlying hu, goInt]) (.int _ _)
    · split at hk <;> try exact hk.elim
      rename_i es hi
      cases hx with
      | map _ p hp =>
        obtain ⟨ms, clk, g1, g2⟩ := r.mem _ _ _ hi hp
        rw [llen_eq] at hk
        exact .same r hk (by simp [Builtin.len_, run_underlying hu, goInt, getObj, Sem.run, g1, g2.length]) (.int _ _)
theorem xconv_sound (r : RH L h w U) {s t : TypeId} {x : AV} {x' : Value} (hx : RV L x x') (hk : xconv m P s t x h ds K) : SemOK P (convert s t x') L h w U K := by
  unfold xconv at hk
  split at hk <;> try exact hk.elim
  · rename_i d k hs ht
    split at hk <;> try exact hk.elim
    cases hx
    obtain ⟨ds', hk⟩ := ari_of hk
    exact .same r hk (by simp [convert, run_underlying hs, run_underlying ht, Conv.intToInt]) (.int _ _)
  · rename_i d hs ht
    split at hk <;> try exact hk.elim
    cases hx with
    | str n v s hs' =>
      exact .same r hk (by cases d <;> simp [convert, run_underlying hs, run_underlying ht]) (.str _ _ _ hs')
theorem xun_sound (r : RH L h w U) {op : UnOp} {x : AV} {x' : Value} (hx : RV L x x') (hk : xun m op x h ds K) : SemOK P (Op.unary op x') L h w U K := by
  unfold xun at hk
  split at hk <;> try exact hk.elim
  · cases hx
    obtain ⟨ds', hk⟩ := ari_of hk
    exact .same r hk (by simp [Op.unary, Op.intArith]) (.int _ _)
  · cases hx
    exact xbits_sound (P := P) r hk
  · cases hx
    exact .same r hk (by simp [Op.unary]) (.bool _)
end

/-! Equality -/
def xeqL (P : Program) (t : TypeId) (x y : AV) : Option Bool :=
  match P.underlying t, x, y with
  | some .bool, .bool a, .bool b => some (Bool.rec (Bool.not b) b a)
  | some (.int _), .int k a, .int k' b => Bool.rec none (some (eqI a b)) (Nat.beq (IntKind.num k) (IntKind.num k'))
  | some .string, .str n v, .str n' v' => some (Bool.and (Nat.beq n n') (Nat.beq v v'))
  | some (.pointer _), .nilp, .nilp => some true
  | some (.pointer _), .nilp, .ptr _ _ => some false
  | some (.pointer _), .ptr _ _, .nilp => some false
  | some (.slice _), .nils, .nils => some true
  | some (.slice _), .nils, .slc _ _ _ _ _ _ => some false
  | some (.slice _), .slc _ _ _ _ _ _, .nils => some false
  | some (.map _ _), .nilm, .nilm => some true
  | some (.map _ _), .nilm, .map _ => some false
  | some (.map _ _), .map _, .nilm => some false
  | some (.func _ _ _), .nilf, .nilf => some true
  | some (.func _ _ _), .nilf, .fn _ _ _ => some false
  | some (.func _ _ _), .fn _ _ _, .nilf => some false
  | some (.interface _), .nili, .ifc _ _ => some false
  | some (.interface _), .ifc _ _, .nili => some false
  | _, _, _ => none
def partL (P : Program) (t : TypeId) (cs : List AV) (off : Nat) : Option AV :=
  match shapeT P t with
  | some none => lget cs off
  | some (some n) => Bool.rec none (some (.agg (ltake (ldrop cs off) n))) (Nat.beq (llen (ltake (ldrop cs off) n)) n)
  | none => none
def xeqF (P : Program) (eq : TypeId → AV → AV → Option Bool) (xs ys : List AV) (fs : List Field) : Option Bool :=
  List.rec (some true) (fun f _ ih => Bool.rec (match partL P f.type xs f.offset, partL P f.type ys f.offset with
    | some a, some b => match eq f.type a b, ih with
      | some r, some r' => some (Bool.and r r')
      | _, _ => none
    | _, _ => none) ih (decide (f.name = "_"))) fs
def xeqT (P : Program) (d : Nat) : TypeId → AV → AV → Option Bool :=
  Nat.rec (fun _ _ _ => none) (fun _ ih t x y => match P.underlying t with
    | some (.struct fs) => match x, y with
      | .agg xs, .agg ys => Bool.rec (xeqF P ih xs ys fs.toList) none (P.stoodInHeld t)
      | _, _ => none
    | _ => xeqL P t x y) d
section
variable {P : Program} {L : LM} {w : World}
theorem bool_eq' (a b : Bool) : (Bool.rec (Bool.not b) b a : Bool) = (a == b) := by cases a <;> cases b <;> rfl
theorem xeqL_sound {t : TypeId} {x y : AV} {x' y' : Value} {b : Bool} (hx : RV L x x') (hy : RV L y y') (hb : xeqL P t x y = some b) (D : Nat) :
    (Op.equalIn (D + 1) t x' y').run P w = .ok b w := by
  unfold xeqL at hb
  split at hb <;> try cases hb
  · rename_i hu; cases hx; cases hy; rw [bool_eq']; simp [Op.equalIn, run_underlying hu]
  · rename_i hu
    cases hx; cases hy
    rename_i k a k' b'
    cases hk : Nat.beq (IntKind.num k) (IntKind.num k') with
    | false => rw [hk] at hb; cases hb
    | true =>
      rw [hk] at hb; cases hb
      have := kind_num hk; subst this
      rw [eqI_eq]; simp [Op.equalIn, run_underlying hu]
  · rename_i hu
    cases hx with
    | str n v s hs => cases hy with
      | str n' v' s' hs' =>
        have := ba_beq hs hs'
        simp only [Op.equalIn, Sem.run_bind, run_underlying hu, Result.andThen_ok, Sem.run_pure, beq_toListBytes, this]
  all_goals (rename_i hu; cases hx; cases hy; simp [Op.equalIn, run_underlying hu])
theorem partL_sound {t : TypeId} {cs : List AV} {off : Nat} {vs : Array Value} {a : AV} (h : RVs L cs vs.toList) (ha : partL P t cs off = some a) :
    ∃ v', (part t vs off).run P w = .ok v' w ∧ RV L a v' := by
  obtain ⟨v, v', e, h1, h2⟩ := xpart_sound (m := false) (P := P) (w := w) (t := t) (off := off) (K := fun v => v = a) h (by
    unfold partL at ha
    unfold xpart
    split at ha
    · rename_i hs
      rw [hs]
      simp only
      rw [ha]
    · rename_i n hs
      rw [hs]
      cases hb : Nat.beq (llen (ltake (ldrop cs off) n)) n with
      | true => rw [hb] at ha; cases ha; simp only; rw [hb]; trivial
      | false => rw [hb] at ha; cases ha
    · cases ha)
  exact ⟨v', h1, e ▸ h2⟩
theorem xeqF_sound (eq : TypeId → AV → AV → Option Bool) (D : Nat)
    (ih : ∀ {t : TypeId} {x y : AV} {x' y' : Value} {b : Bool}, RV L x x' → RV L y y' → eq t x y = some b → (Op.equalIn D t x' y').run P w = .ok b w)
    {xs ys : List AV} {xs' ys' : Array Value} (hx : RVs L xs xs'.toList) (hy : RVs L ys ys'.toList) : ∀ (fs : List Field) {b : Bool}, xeqF P eq xs ys fs = some b →
    (Op.eqFields D xs' ys' fs).run P w = .ok b w
  | [], b, hb => by cases hb; rfl
  | f :: fs, b, hb => by
    have hb : (Bool.rec (match partL P f.type xs f.offset, partL P f.type ys f.offset with
      | some a, some b => match eq f.type a b, xeqF P eq xs ys fs with
        | some r, some r' => some (Bool.and r r')
        | _, _ => none
      | _, _ => none) (xeqF P eq xs ys fs) (decide (f.name = "_")) : Option Bool) = some b := hb
    cases hn : decide (f.name = "_") with
    | true =>
      rw [hn] at hb
      have hn : f.name = "_" := by simpa using hn
      simp only [Op.eqFields, hn, ne_eq, not_true_eq_false, if_false]
      exact xeqF_sound eq D ih hx hy fs hb
    | false =>
      rw [hn] at hb
      have hn : f.name ≠ "_" := by simpa using hn
      simp only at hb
      split at hb <;> try cases hb
      rename_i a c ha hc
      split at hb <;> try cases hb
      rename_i q q' hq hq'
      obtain ⟨a', e1, e2⟩ := partL_sound (w := w) hx ha
      obtain ⟨c', f1, f2⟩ := partL_sound (w := w) hy hc
      have g := ih e2 f2 hq
      have hrec := xeqF_sound eq D ih hx hy fs hq'
      simp only [Op.eqFields, ne_eq, hn, not_false_eq_true, if_true, Sem.run_bind, e1, Result.andThen_ok, f1, g, Sem.run_ite]
      cases q with
      | false => simp
      | true => simpa using hrec
theorem xeqT_succ (d : Nat) (t : TypeId) (x y : AV) : xeqT P (d + 1) t x y = (match P.underlying t with
    | some (.struct fs) => match x, y with
      | .agg xs, .agg ys => (Bool.rec (xeqF P (xeqT P d) xs ys fs.toList) none (P.stoodInHeld t) : Option Bool)
      | _, _ => none
    | _ => xeqL P t x y) := rfl
theorem xeqT_sound : ∀ (d : Nat) {t : TypeId} {x y : AV} {x' y' : Value} {b : Bool}, RV L x x' → RV L y y' → xeqT P d t x y = some b → ∀ D, d ≤ D → (Op.equalIn D t x' y').run P w = .ok b w
  | 0, t, x, y, x', y', b, _, _, hb, _, _ => by cases hb
  | d + 1, t, x, y, x', y', b, hx, hy, hb, D, hD => by
    obtain ⟨D, rfl⟩ : ∃ D', D = D' + 1 := ⟨D - 1, by omega⟩
    rw [xeqT_succ] at hb
    split at hb
    · rename_i fs hu
      split at hb <;> try cases hb
      rename_i xs ys
      cases hs : P.stoodInHeld t with
      | true => rw [hs] at hb; cases hb
      | false =>
        rw [hs] at hb
        have hfs : P.fieldsOf t = fs := by simp [Program.fieldsOf, hu]
        cases hx with
        | agg _ xs' hxs => cases hy with
          | agg _ ys' hys =>
            rw [run_equalIn_struct w D t xs' ys' (by rw [hfs]; exact hu) hs, hfs]
            exact xeqF_sound (xeqT P d) D (fun a b c => xeqT_sound d a b c D (by omega)) hxs hys _ hb
    · exact xeqL_sound hx hy hb D
end
end
end Go.X

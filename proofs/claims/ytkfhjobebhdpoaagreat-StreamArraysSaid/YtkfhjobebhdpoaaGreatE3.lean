/- All operations of the abstract machine. -/
import Derived.Test.YtkfhjobebhdpoaaGreatE2
import Derived.MapKept
set_option linter.unusedVariables false
set_option linter.unusedSimpArgs false
set_option autoImplicit false
namespace Go.X
noncomputable section

def cls (x : AV) : Bool := match x with
  | .bool _ => true
  | .nilp => true
  | .ptr _ _ => true
  | .nils => true
  | .slc _ _ _ _ _ _ => true
  | .nilm => true
  | .map _ => true
  | .fn _ _ _ => true
  | .nilf => true
  | .ifc _ _ => true
  | _ => false
def vcls (x : Value) : Bool := match x with
  | .int _ _ => false
  | .float _ _ => false
  | .complex _ _ _ => false
  | .string _ => false
  | _ => true
def xeqK (m : Bool) (P : Program) (op : BinOp) (t : TypeId) (x y : AV) (h : H) (ds : List Bool) (K : KV) : Prop :=
  match xeqT P 20 t x y with
  | some b => match op with
    | .eql => dcd m b ds fun b ds => K (.bool b) h ds
    | .neq => dcd m b ds fun b ds => K (.bool (Bool.not b)) h ds
    | _ => False
  | none => False
def isSh (op : BinOp) : Bool := match op with
  | .shl => true
  | .shr => true
  | _ => false
def xbin (m : Bool) (P : Program) (op : BinOp) (t : TypeId) (x y : AV) (h : H) (ds : List Bool) (K : KV) : Prop :=
  match x with
  | .int k a => match y with
    | .int k' b => Bool.rec (Bool.rec False (xint m op k a b ds fun v ds => K v h ds) (Nat.beq (IntKind.num k) (IntKind.num k'))) (xshift m op k a b ds fun v ds => K v h ds) (isSh op)
    | _ => False
  | .str n v => match y with
    | .str n' v' => xstr m op n v n' v' ds fun v ds => K v h ds
    | _ => False
  | .agg cs => match y with
    | .agg cs' => Bool.rec (xeqK m P op t (.agg cs) (.agg cs') h ds K) False (P.eqGuardType P.depth t)
    | _ => False
  | .nili => match y with
    | .ifc u z => xeqK m P op t .nili (.ifc u z) h ds K
    | _ => False
  | x => Bool.rec False (xeqK m P op t x y h ds K) (cls x)

section
variable {P : Program} {L : LM} {h : H} {w : World} {U : Nat} {m : Bool} {ds : List Bool} {K : KV}
theorem eq_plain {t : TypeId} {x' : Value} (hx : vcls x' = true) (y' : Value) :
    binOp .eql t x' y' = (do pure (.bool (← Op.equal t x' y'))) ∧ binOp .neq t x' y' = (do pure (.bool (!(← Op.equal t x' y')))) := by
  cases x' <;> first
    | (cases hx; done)
    | (cases y' <;> exact ⟨rfl, rfl⟩)
theorem xeqK_sound (r : RH L h w U) {op : BinOp} {t : TypeId} {x y : AV} {x' y' : Value} (hx : RV L x x') (hy : RV L y y')
    (hp : vcls x' = true) (hk : xeqK m P op t x y h ds K) :
    SemOK P (binOp op t x' y') L h w U K := by
  unfold xeqK at hk
  split at hk <;> try exact hk.elim
  rename_i b hb
  have he := xeqT_sound (w := w) 20 hx hy hb 10000 (by omega)
  obtain ⟨e1, e2⟩ := eq_plain (t := t) hp y'
  split at hk <;> try exact hk.elim
  · obtain ⟨ds', hk⟩ := dcd_of hk
    exact .same r hk (by rw [e1]; simp [Op.equal, Op.maxDepth, he]) (.bool _)
  · obtain ⟨ds', hk⟩ := dcd_of hk
    exact .same r hk (by rw [e2]; simp [Op.equal, Op.maxDepth, he]) (.bool _)
theorem xbin_sound (r : RH L h w U) {op : BinOp} {t : TypeId} {x y : AV} {x' y' : Value} (hx : RV L x x') (hy : RV L y y') (xo yo : Operand) (hk : xbin m P op t x y h ds K) :
    SemOK P (do eqGuard op t xo yo x' y'; binOp op t x' y') L h w U K := by
  have key : (eqGuard op t xo yo x' y').run P w = .ok () w → SemOK P (binOp op t x' y') L h w U K → SemOK P (do eqGuard op t xo yo x' y'; binOp op t x' y') L h w U K := by
    rintro hg ⟨v, h', ds', L', v', w', a, b, c⟩
    exact ⟨v, h', ds', L', v', w', a, by simp [hg, b], c⟩
  have plain : ∀ {x : AV}, RV L x x' → cls x = true → xeqK m P op t x y h ds K → SemOK P (do eqGuard op t xo yo x' y'; binOp op t x' y') L h w U K := by
    intro x hx hc hk
    refine key ?_ (xeqK_sound r hx hy ?_ hk)
    · cases hx <;> first
        | (cases hc; done)
        | simp only [eqGuard_at_bool, eqGuard_at_pointer, eqGuard_at_slice, eqGuard_at_map, eqGuard_at_func, eqGuard_at_nilFunc, eqGuard_at_iface, Sem.run_pure]
    · cases hx <;> first
        | (cases hc; done)
        | rfl
  unfold xbin at hk
  split at hk
  · split at hk <;> try exact hk.elim
    rename_i k a _ k' b
    cases hx; cases hy
    refine key (by rw [eqGuard_at_int]; rfl) ?_
    cases hs : isSh op with
    | true =>
      rw [hs] at hk
      exact xshift_sound r (by cases op <;> first | exact .inl rfl | exact .inr rfl | cases hs) hk
    | false =>
      rw [hs] at hk
      cases hkk : Nat.beq (IntKind.num k) (IntKind.num k') with
      | false => simp only [hkk] at hk
      | true =>
        simp only [hkk] at hk
        have := kind_num hkk; subst this
        exact xint_sound r (by constructor <;> (intro e; subst e; cases hs)) hk
  · split at hk <;> try exact hk.elim
    cases hx with
    | str n v s hs => cases hy with
      | str n' v' s' hs' => exact key (by rw [eqGuard_at_string]; rfl) (xstr_sound r hs hs' hk)
  · split at hk <;> try exact hk.elim
    cases hg : P.eqGuardType P.depth t with
    | true => rw [hg] at hk; exact hk.elim
    | false =>
      rw [hg] at hk
      cases hx with
      | agg _ xs hxs => cases hy with
        | agg _ ys hys =>
          exact key (run_eqGuard_agg w op t xo yo xs ys hg) (xeqK_sound r (.agg _ xs hxs) (.agg _ ys hys) rfl hk)
  · split at hk <;> try exact hk.elim
    cases hx; cases hy
    exact key (by rw [eqGuard_nil_iface]; rfl) (xeqK_sound r .nili (.ifc _ _ _ (by assumption)) rfl hk)
  · cases hc : cls x with
    | false => rw [hc] at hk; exact hk.elim
    | true => rw [hc] at hk; exact plain hx hc hk
end
end
end Go.X
/- Maps. -/
set_option autoImplicit false
set_option linter.unusedVariables false
namespace Go.X
noncomputable section
open Go.MapKept
section
variable {P : Program} {L : LM} {h : H} {w : World} {U : Nat} {m : Bool} {ds : List Bool} {K : KV}

theorem band' {a b : Bool} (h : Bool.and a b = true) : a = true ∧ b = true := by cases a <;> cases b <;> first | exact ⟨rfl, rfl⟩ | cases h
def keyEq (d : TypeDesc) (a b : AV) : Option Bool := match d with
  | .string => match a with
    | .str n v => match b with
      | .str n' v' => some (Bool.and (Nat.beq n n') (Nat.beq v v'))
      | _ => none
    | _ => none
  | .int _ => match a with
    | .int k n => match b with
      | .int k' n' => Bool.rec none (some (eqI n n')) (Nat.beq (IntKind.num k) (IntKind.num k'))
      | _ => none
    | _ => none
  | .bool => match a with
    | .bool x => match b with
      | .bool y => some (Bool.rec (Bool.not y) y x)
      | _ => none
    | _ => none
  | _ => none
def keyOK (d : TypeDesc) (a : AV) : Bool := match d with
  | .string => match a with
    | .str _ _ => true
    | _ => false
  | .int kd => match a with
    | .int k _ => Nat.beq (IntKind.num k) (IntKind.num kd)
    | _ => false
  | .bool => match a with
    | .bool _ => true
    | _ => false
  | _ => false
theorem keyOK_sound {d : TypeDesc} {a : AV} {a' : Value} (r : RV L a a') (hk : keyOK d a = true) : IsKey d a' := by
  unfold keyOK at hk
  split at hk
  · split at hk <;> try exact Bool.noConfusion hk
    cases r; exact trivial
  · split at hk <;> try exact Bool.noConfusion hk
    cases r; exact kind_num hk
  · split at hk <;> try exact Bool.noConfusion hk
    cases r; exact trivial
  · exact Bool.noConfusion hk
theorem keyEq_sound {d : TypeDesc} {a b : AV} {a' b' : Value} (ra : RV L a a') (rb : RV L b b') {r : Bool} (hk : keyEq d a b = some r) : Instr.sameNow d a' b' = some r := by
  unfold keyEq at hk
  split at hk
  · split at hk <;> try (cases hk; done)
    split at hk <;> try (cases hk; done)
    cases ra with
    | str n v s hs => cases rb with
      | str n' v' s' hs' =>
        obtain ⟨a1, _, a3⟩ := strOf_str hs
        obtain ⟨b1, _, b3⟩ := strOf_str hs'
        cases hk
        simp only [Instr.sameNow]
        refine congrArg some ?_
        rw [Bool.eq_iff_iff, bytes_beq]
        constructor
        · rintro rfl
          rw [natBeq_iff.2 (a1.symm.trans b1), natBeq_iff.2 (a3.trans b3.symm)]; rfl
        · intro e
          obtain ⟨e1, e2⟩ := band' e
          exact strOf_inj ((a1.trans (natBeq_iff.1 e1)).trans b1.symm) ((a3.symm.trans (natBeq_iff.1 e2)).trans b3)
  · split at hk <;> try (cases hk; done)
    split at hk <;> try (cases hk; done)
    rename_i k n _ k' n'
    cases ra; cases rb
    cases hb : Nat.beq (IntKind.num k) (IntKind.num k') with
    | false => rw [hb] at hk; cases hk
    | true =>
      rw [hb] at hk
      have := kind_num hb
      subst this
      cases hk
      simp [Instr.sameNow, eqI_eq]
  · split at hk <;> try (cases hk; done)
    split at hk <;> try (cases hk; done)
    rename_i x _ y
    cases ra; cases rb; cases hk
    cases x <;> cases y <;> rfl
  · cases hk
theorem sameNow_true {d : TypeDesc} {a b : Value} (h : Instr.sameNow d a b = some true) : a = b := by
  unfold Instr.sameNow at h
  split at h
  · split at h
    · rename_i e; subst e; simp at h; rw [h]
    · cases h
  · simp at h; rw [(bytes_beq _ _).1 h]
  · simp at h; rw [h]
  · cases h
/-- the place of a key, from place i on, and what lies there -/
def xfind (d : TypeDesc) (k : AV) (es : List (AV × AV)) (i : Nat) : Option (Option (Nat × AV)) :=
  List.rec (motive := fun _ => Nat → Option (Option (Nat × AV))) (fun _ => some none) (fun e _ ih i => match keyEq d k e.1 with
    | some b => Bool.rec (ih (Nat.succ i)) (some (some (i, e.2))) b
    | none => none) es i
theorem xfind_sound {d : TypeDesc} {k : AV} {k' : Value} (rk : RV L k k') : ∀ {es : List (AV × AV)} {ms : List MapEntry}, REs L es ms → ∀ {i : Nat} {r : Option (Nat × AV)}, xfind d k es i = some r →
    (r = none ∧ Instr.findNow d k' ms i = some none) ∨ ∃ j v e, r = some (i + j, v) ∧ Instr.findNow d k' ms i = some (some (i + j, e.val)) ∧ RV L v e.val ∧ ms[j]? = some e ∧ e.key = k'
  | _, _, .nil, i, r, hk => by cases hk; exact .inl ⟨rfl, rfl⟩
  | _, _, .cons e m es ms he hs, i, r, hk => by
    have hk : (match keyEq d k e.1 with
      | some b => (Bool.rec (xfind d k es (Nat.succ i)) (some (some (i, e.2))) b : Option (Option (Nat × AV)))
      | none => none) = some r := hk
    split at hk
    · rename_i b hb
      have hn := keyEq_sound rk he.1 hb
      cases b with
      | true =>
        cases hk
        exact .inr ⟨0, e.2, m, rfl, by simp [Instr.findNow, hn], he.2, rfl, (sameNow_true hn).symm⟩
      | false =>
        rcases xfind_sound rk hs hk with ⟨a, b⟩ | ⟨j, v, e', a, b, c, f, g⟩
        · exact .inl ⟨a, by simp [Instr.findNow, hn, b]⟩
        · have e1 : Nat.succ i + j = i + (j + 1) := by omega
          rw [e1] at a b
          exact .inr ⟨j + 1, v, e', a, by simp [Instr.findNow, hn, b], c, by simpa using f, g⟩
    · cases hk
/-! Keys of any kind: of one cell, or of several that are plain -/
def cellEq (a b : AV) : Option Bool := match a with
  | .int k n => match b with
    | .int k' n' => some (Bool.and (Nat.beq (IntKind.num k) (IntKind.num k')) (eqI n n'))
    | _ => none
  | .str n v => match b with
    | .str n' v' => some (Bool.and (Nat.beq n n') (Nat.beq v v'))
    | _ => none
  | .bool x => match b with
    | .bool y => some (Bool.rec (Bool.not y) y x)
    | _ => none
  | _ => none
def cellsEq (as : List AV) : List AV → Option Bool := List.rec (motive := fun _ => List AV → Option Bool) (fun bs => match bs with
    | [] => some true
    | _ => none) (fun a _ ih bs => match bs with
    | [] => none
    | b :: bs => match cellEq a b with
      | some r => match ih bs with
        | some r' => some (Bool.and r r')
        | none => none
      | none => none) as
theorem str_inj {n v : Nat} {s s' : ByteArray} (h : strOf s = .str n v) (h' : strOf s' = .str n v) : s = s' := by
  have h1 : keyEq .string (.str n v) (.str n v) = some true := by
    show some (Bool.and (Nat.beq n n) (Nat.beq v v)) = some true
    rw [Nat.beq_refl, Nat.beq_refl]; rfl
  have := sameNow_true (keyEq_sound (L := fun _ => none) (.str n v s h) (.str n v s' h') h1)
  cases this; rfl
theorem cellEq_true {a b : AV} {x y : Value} (hx : RV L a x) (hy : RV L b y) (h : cellEq a b = some true) : x = y ∧ ∀ n, Instr.sameBits n x x = true := by
  unfold cellEq at h
  split at h <;> try cases h
  · split at h <;> try cases h
    rename_i k n _ k' n'
    have h : Bool.and (Nat.beq (IntKind.num k) (IntKind.num k')) (eqI n n') = true := Option.some.inj h
    obtain ⟨h1, h2⟩ := band' h
    rw [eqI_eq] at h2
    have e1 : k = k' := by
      have := Nat.eq_of_beq_eq_true h1
      cases k <;> cases k' <;> first | rfl | (exact absurd this (by decide))
    have e2 : n = n' := by simpa using h2
    subst e1 e2
    cases hx; cases hy
    exact ⟨rfl, fun m => by cases m <;> simp [Instr.sameBits]⟩
  · split at h <;> try cases h
    rename_i n v _ n' v'
    have h : Bool.and (Nat.beq n n') (Nat.beq v v') = true := Option.some.inj h
    obtain ⟨h1, h2⟩ := band' h
    have e1 := Nat.eq_of_beq_eq_true h1
    have e2 := Nat.eq_of_beq_eq_true h2
    subst e1 e2
    cases hx with
    | str _ _ s hs => cases hy with
      | str _ _ s' hs' =>
        rw [str_inj hs hs']
        exact ⟨rfl, fun m => by cases m <;> simp [Instr.sameBits, bytes_beq]⟩
  · split at h <;> try cases h
    rename_i p _ q
    have h : (Bool.rec (Bool.not q) q p : Bool) = true := Option.some.inj h
    cases hx; cases hy
    cases p <;> cases q <;> first
      | exact Bool.noConfusion h
      | exact ⟨rfl, fun m => by cases m <;> simp [Instr.sameBits]⟩
theorem cellsEq_true : ∀ {as bs : List AV} {xs ys : List Value}, RVs L as xs → RVs L bs ys → cellsEq as bs = some true → xs = ys ∧ ∀ n, (xs.zip xs).all (fun p => Instr.sameBits n p.1 p.2) = true
  | [], bs, xs, ys, hx, hy, h => by
    cases hx
    cases bs with
    | nil => cases hy; exact ⟨rfl, fun _ => rfl⟩
    | cons b bs => cases h
  | a :: as, bs, xs, ys, hx, hy, h => by
    cases bs with
    | nil => cases h
    | cons b bs =>
      have h : (match cellEq a b with
        | some r => match cellsEq as bs with
          | some r' => some (Bool.and r r')
          | none => none
        | none => none) = some true := h
      split at h <;> try cases h
      rename_i r hr
      split at h <;> try cases h
      rename_i r' hr'
      obtain ⟨h1, h2⟩ := band' (Option.some.inj h)
      subst h1 h2
      cases hx with
      | cons _ x _ xs h1 h2 => cases hy with
        | cons _ y _ ys h3 h4 =>
          obtain ⟨e1, e2⟩ := cellEq_true h1 h3 hr
          obtain ⟨e3, e4⟩ := cellsEq_true h2 h4 hr'
          subst e1 e3
          exact ⟨rfl, fun n => by simp only [List.zip_cons_cons, List.all_cons, e2, e4, Bool.and_self]⟩
def keyEqT (P : Program) (kt : TypeId) (d : TypeDesc) (a b : AV) : Option Bool := match d with
  | .struct _ => match a with
    | .agg xs => match b with
      | .agg ys => match xeqT P 20 kt (.agg xs) (.agg ys) with
        | some r => match cellsEq xs ys with
          | some r' => Bool.rec none (some r) (Bool.rec (Bool.not r') r' r)
          | none => none
        | none => none
      | _ => none
    | _ => none
  | d => keyEq d a b
def xfindT (P : Program) (kt : TypeId) (d : TypeDesc) (k : AV) (es : List (AV × AV)) (i : Nat) : Option (Option (Nat × AV)) :=
  List.rec (motive := fun _ => Nat → Option (Option (Nat × AV))) (fun _ => some none) (fun e _ ih i => match keyEqT P kt d k e.1 with
    | some b => Bool.rec (ih (Nat.succ i)) (some (some (i, e.2))) b
    | none => none) es i
/-- is a field plain? -/
def fieldOK (P : Program) (cs : List AV) (f : Field) : Bool := match P.underlying f.type with
  | some (.int _) => Option.rec false (fun _ => true) (partL P f.type cs f.offset)
  | some .string => Option.rec false (fun _ => true) (partL P f.type cs f.offset)
  | some .bool => Option.rec false (fun _ => true) (partL P f.type cs f.offset)
  | _ => false
def keyOKT (P : Program) (d : TypeDesc) (a : AV) : Bool := match d with
  | .struct fs => match a with
    | .agg cs => Bool.and (Option.rec false (fun b => b) (cellsEq cs cs)) (List.rec true (fun f _ ih => Bool.and (fieldOK P cs f) ih) fs.toList)
    | _ => false
  | d => keyOK d a
structure KeyFine (P : Program) (kt : TypeId) (k : Value) : Prop where
  check : ∀ (w : World) (e : Bool) (n : Nat), (Instr.checkKey e (n + 2) kt k).run P w = .ok () w
  stays : ∀ (w : World), (Instr.keyThatStays k k).run P w = .ok k w
theorem run_checkFields {xs : List AV} {ys : Array Value} (h : RVs L xs ys.toList) (e : Bool) (n : Nat) : ∀ (fs : List Field), List.rec (motive := fun _ => Bool) true (fun f _ ih => Bool.and (fieldOK P xs f) ih) fs = true →
    (forIn fs PUnit.unit fun f _ => (do
      if f.name ≠ "_" then Instr.checkKey e (n + 1) f.type (← part f.type ys f.offset)
      pure (ForInStep.yield PUnit.unit) : Sem (ForInStep PUnit))).run P w = .ok PUnit.unit w
  | [], _ => by simp
  | f :: fs, hf => by
    obtain ⟨h1, h2⟩ := band' hf
    have rest := run_checkFields h e n fs h2
    have hp : ∃ a, partL P f.type xs f.offset = some a := by
      unfold fieldOK at h1
      split at h1 <;> first
        | (cases hq : partL P f.type xs f.offset with
            | none => rw [hq] at h1; cases h1
            | some a => exact ⟨a, rfl⟩)
        | cases h1
    obtain ⟨a, ha⟩ := hp
    obtain ⟨v, e1, e2⟩ := partL_sound (w := w) h ha
    have hc : (Instr.checkKey e (n + 1) f.type v).run P w = .ok () w := by
      unfold fieldOK at h1
      unfold Instr.checkKey
      split at h1 <;> first
        | (rename_i hu; simp [run_underlying hu, Result.andThen])
        | cases h1
    rw [List.forIn_cons]
    by_cases hn : f.name = "_"
    · simp [hn]; simpa [hn] using rest
    · simp [hn, Result.andThen, e1, hc]; simpa using rest
theorem keyOKT_sound {kt : TypeId} {d : TypeDesc} {a : AV} {a' : Value} (hd : P.underlying kt = some d) (r : RV L a a') (hk : keyOKT P d a = true) : KeyFine P kt a' := by
  have plain : keyOK d a = true → KeyFine P kt a' := fun hk => ⟨fun w e n => run_checkKey hd (keyOK_sound r hk) e (n + 1), fun w => run_keyThatStays (keyOK_sound r hk)⟩
  unfold keyOKT at hk
  split at hk
  · rename_i fs
    split at hk <;> try exact Bool.noConfusion hk
    rename_i cs
    obtain ⟨h1, h2⟩ := band' hk
    cases r with
    | agg _ xs hx =>
      have h1 : cellsEq cs cs = some true := by
        cases hq : cellsEq cs cs with
        | none => rw [hq] at h1; cases h1
        | some b => rw [hq] at h1; cases b with
          | true => rfl
          | false => cases h1
      refine ⟨fun w e n => ?_, fun w => ?_⟩
      · have := run_checkFields (P := P) (w := w) hx e n fs.toList h2
        unfold Instr.checkKey
        simp only [Sem.run_bind, run_underlying hd, Result.andThen]
        simp at this ⊢
        rw [this]
      · have h3 := (cellsEq_true hx hx h1).2 9999
        have : Instr.sameBits 10000 (.agg xs) (.agg xs) = true := by
          simp only [Instr.sameBits, beq_self_eq_true, Bool.true_and]
          exact h3
        simp [Instr.keyThatStays, this]
  · exact plain hk
theorem keyEqT_struct {kt : TypeId} {fs : Array Field} {k a : AV} {k' a' : Value} {b : Bool} (rk : RV L k k') (rx : RV L a a') (hb : keyEqT P kt (.struct fs) k a = some b) : (Op.equal kt k' a').run P w = .ok b w ∧ (b = true → a' = k') := by
  unfold keyEqT at hb
  dsimp only at hb
  split at hb <;> try cases hb
  rename_i xs
  split at hb <;> try cases hb
  rename_i ys
  split at hb <;> try cases hb
  rename_i q hq
  split at hb <;> try cases hb
  rename_i q' hq'
  have he := xeqT_sound (w := w) 20 rk rx hq 10000 (by omega)
  cases q with
  | true =>
    cases q' with
    | false => cases hb
    | true =>
      cases hb
      refine ⟨he, fun _ => ?_⟩
      cases rk with
      | agg _ x1 h1 => cases rx with
        | agg _ y1 h2 =>
          have := (cellsEq_true h1 h2 hq').1
          congr 1
          exact (Array.ext' this).symm
  | false =>
    cases q' with
    | true => cases hb
    | false => cases hb; exact ⟨he, fun h => by cases h⟩
theorem xfindT_sound {kt : TypeId} {d : TypeDesc} {k : AV} {k' : Value} (hd : P.underlying kt = some d) (rk : RV L k k') : ∀ {es : List (AV × AV)} {ms : List MapEntry}, REs L es ms → ∀ {r : Option (Nat × AV)}, xfindT P kt d k es 0 = some r →
    (r = none ∧ (Instr.findKey kt k' ms).run P w = .ok none w) ∨ ∃ j v e, r = some (0 + j, v) ∧ (Instr.findKey kt k' ms).run P w = .ok (some (0 + j, e.val)) w ∧ RV L v e.val ∧ ms[j]? = some e ∧ e.key = k' := by
  intro es ms hre r hf
  have plain : xfind d k es 0 = some r → (r = none ∧ (Instr.findKey kt k' ms).run P w = .ok none w) ∨ ∃ j v e, r = some (0 + j, v) ∧ (Instr.findKey kt k' ms).run P w = .ok (some (0 + j, e.val)) w ∧ RV L v e.val ∧ ms[j]? = some e ∧ e.key = k' := by
    intro hf
    rcases xfind_sound rk hre hf with ⟨a, b⟩ | ⟨j, v, e, a, b, c⟩
    · exact .inl ⟨a, run_findKey hd b⟩
    · exact .inr ⟨j, v, e, a, run_findKey hd b, c⟩
  cases d
  case struct fs =>
    have ask : ∀ {es : List (AV × AV)} {ms : List MapEntry}, REs L es ms → ∀ {i : Nat} {r : Option (Nat × AV)}, xfindT P kt (.struct fs) k es i = some r →
        (r = none ∧ (Instr.findAsking kt k' ms i).run P w = .ok none w) ∨ ∃ j v e, r = some (i + j, v) ∧ (Instr.findAsking kt k' ms i).run P w = .ok (some (i + j, e.val)) w ∧ RV L v e.val ∧ ms[j]? = some e ∧ e.key = k' := by
      intro es ms hre
      induction hre with
      | nil => intro i r h; cases h; exact .inl ⟨rfl, by simp [Instr.findAsking]⟩
      | cons x y xs ys hx hxs ih =>
        intro i r h
        have h : (match keyEqT P kt (.struct fs) k x.1 with
          | some b => (Bool.rec (xfindT P kt (.struct fs) k xs (Nat.succ i)) (some (some (i, x.2))) b : Option (Option (Nat × AV)))
          | none => none) = some r := h
        split at h <;> try cases h
        rename_i b hb
        obtain ⟨h1, h2⟩ := keyEqT_struct (w := w) rk hx.1 hb
        cases b with
        | true =>
          cases h
          exact .inr ⟨0, x.2, y, rfl, by simp [Instr.findAsking, h1], hx.2, rfl, h2 rfl⟩
        | false =>
          rcases ih h with ⟨a1, a2⟩ | ⟨j, v, e, a1, a2, a3, a4, a5⟩
          · exact .inl ⟨a1, by simp [Instr.findAsking, h1, a2]⟩
          · have e1 : Nat.succ i + j = i + (j + 1) := by omega
            rw [e1] at a1 a2
            exact .inr ⟨j + 1, v, e, a1, by simp [Instr.findAsking, h1, a2], a3, by simpa using a4, a5⟩
    have key : ∀ {o : Option (Nat × Value)}, (Instr.findAsking kt k' ms 0).run P w = .ok o w → (Instr.findKey kt k' ms).run P w = .ok o w := by
      intro o ho
      cases ms with
      | nil => simp [Instr.findAsking] at ho; simp [Instr.findKey, run_underlying hd, Result.andThen, Instr.findNow, ho]
      | cons m ms =>
        have : Instr.findNow (.struct fs) k' (m :: ms) 0 = none := rfl
        simp only [Instr.findKey, Sem.run_bind, run_underlying hd, Result.andThen, this]
        exact ho
    rcases ask hre hf with ⟨a1, a2⟩ | ⟨j, v, e, a1, a2, a3⟩
    · exact .inl ⟨a1, key a2⟩
    · exact .inr ⟨j, v, e, a1, key a2, a3⟩
  all_goals exact plain hf
def zval (P : Program) (t : TypeId) : Option AV := (P.info? t).bind fun i => i.zero.map ofV
theorem run_zval {t : TypeId} {z : AV} (h : zval P t = some z) : ∃ z', (zeroValue t).run P w = .ok z' w ∧ RV L z z' := by
  unfold zval at h
  cases hi : P.info? t with
  | none => rw [hi] at h; cases h
  | some i =>
    rw [hi] at h
    cases hz : i.zero with
    | none => simp [hz] at h
    | some z' => simp [hz] at h; subst h; exact ⟨z', by simp [zeroValue, typeInfo, hi, hz], rv_ofV L z'⟩
def xlook (P : Program) (t : TypeId) (x k : AV) (ok : Bool) (h : H) (ds : List Bool) (K : KV) : Prop := match P.underlying t with
  | some (.map kt et) => match P.underlying kt with
    | some d => Bool.rec False (match x with
      | .nilm => match zval P et with
        | some z => K (Bool.rec z (.tup [z, .bool false]) ok) h ds
        | none => False
      | .map i => match h.b.get i with
        | some (.map bs ck es) => match xfindT P kt d k es 0 with
          | some none => match zval P et with
            | some z => K (Bool.rec z (.tup [z, .bool false]) ok) h ds
            | none => False
          | some (some p) => K (Bool.rec p.2 (.tup [p.2, .bool true]) ok) h ds
          | none => False
        | _ => False
      | _ => False) (keyOKT P d k)
    | none => False
  | _ => False
/-- are all keys texts, and all that lies there numbers of a kind? -/
def isSI (kk : IntKind) (es : List (AV × AV)) : Bool := List.rec true (fun e _ ih => match e.1 with
  | .str _ _ => match e.2 with
    | .int k _ => Bool.rec false ih (Nat.beq (IntKind.num k) (IntKind.num kk))
    | _ => false
  | _ => false) es
/-- what lies at a text, or z -/
def findS (n v : Nat) (es : List (AV × AV)) (z : Int) : Int := List.rec z (fun e _ ih => match e.1 with
  | .str n' v' => match e.2 with
    | .int _ m => Bool.rec ih m (Bool.and (Nat.beq n n') (Nat.beq v v'))
    | _ => 0
  | _ => 0) es
def isStrD (d : Option TypeDesc) : Bool := match d with
  | some .string => true
  | _ => false
theorem findS_spec {kk : IntKind} {n v : Nat} {z : Int} : ∀ {es : List (AV × AV)}, isSI kk es = true → ∀ i, (xfind .string (.str n v) es i = some none ∧ findS n v es z = z) ∨ ∃ j m, xfind .string (.str n v) es i = some (some (j, .int kk m)) ∧ findS n v es z = m
  | [], _, i => .inl ⟨rfl, rfl⟩
  | e :: es, h, i => by
    obtain ⟨a, b⟩ := e
    cases a <;> try (cases h; done)
    rename_i n' v'
    cases b <;> try (cases h; done)
    rename_i k m
    have h : (Bool.rec false (isSI kk es) (Nat.beq (IntKind.num k) (IntKind.num kk)) : Bool) = true := h
    cases hk : Nat.beq (IntKind.num k) (IntKind.num kk) with
    | false => rw [hk] at h; cases h
    | true =>
      rw [hk] at h
      have := kind_num hk; subst this
      have h : isSI k es = true := h
      have e1 : xfind .string (.str n v) ((.str n' v', .int k m) :: es) i = (Bool.rec (xfind .string (.str n v) es (Nat.succ i)) (some (some (i, .int k m))) (Bool.and (Nat.beq n n') (Nat.beq v v')) : Option (Option (Nat × AV))) := rfl
      have e2 : findS n v ((.str n' v', .int k m) :: es) z = (Bool.rec (findS n v es z) m (Bool.and (Nat.beq n n') (Nat.beq v v')) : Int) := rfl
      rw [e1, e2]
      cases Bool.and (Nat.beq n n') (Nat.beq v v') with
      | true => exact .inr ⟨i, m, rfl, rfl⟩
      | false => exact findS_spec h _
/-- looking up a number at a text: no case is made of what is found -/
def xlookI (P : Program) (t : TypeId) (x k : AV) (ok : Bool) (h : H) (ds : List Bool) (K : KV) : Prop := match k with
  | .str n v => match ok with
    | false => match x with
      | .map i => match h.b.get i with
        | some (.map bs ck es) => match P.underlying t with
          | some (.map kt et) => match zval P et with
            | some (.int kk z) => Bool.rec (xlook P t (.map i) (.str n v) false h ds K) (K (.int kk (findS n v es z)) h ds) (Bool.and (isStrD (P.underlying kt)) (isSI kk es))
            | _ => xlook P t (.map i) (.str n v) false h ds K
          | _ => xlook P t (.map i) (.str n v) false h ds K
        | _ => xlook P t (.map i) (.str n v) false h ds K
      | x => xlook P t x (.str n v) false h ds K
    | true => xlook P t x (.str n v) true h ds K
  | k => xlook P t x k ok h ds K
theorem xlookI_eq {t : TypeId} {x k : AV} {ok : Bool} : xlookI P t x k ok h ds K = xlook P t x k ok h ds K := by
  unfold xlookI
  split <;> try rfl
  rename_i n v
  split <;> try rfl
  split <;> try rfl
  rename_i i
  split <;> try rfl
  rename_i bs ck es hi
  split <;> try rfl
  rename_i kt et hu
  split <;> try rfl
  rename_i kk z hz
  cases hb : Bool.and (isStrD (P.underlying kt)) (isSI kk es) with
  | false => rfl
  | true =>
    obtain ⟨b1, b2⟩ := band' hb
    have hd : P.underlying kt = some .string := by
      unfold isStrD at b1
      split at b1
      · assumption
      · cases b1
    have e : xlook P t (.map i) (.str n v) false h ds K = (match xfind .string (.str n v) es 0 with
          | some none => match zval P et with
            | some z => K z h ds
            | none => False
          | some (some p) => K p.2 h ds
          | none => False) := by
      unfold xlook
      simp only [hu, hd, hi]
      rfl
    rw [e]
    rcases findS_spec (n := n) (v := v) (z := z) b2 0 with ⟨c1, c2⟩ | ⟨j, m, c1, c2⟩
    · rw [c1, c2]; simp only [hz]
    · rw [c1, c2]
theorem give_rv {v : AV} {v' : Value} (hv : RV L v v') (b ok : Bool) : RV L (Bool.rec v (.tup [v, .bool b]) ok) (if ok then .tuple #[v', .bool b] else v') := by
  cases ok with
  | false => exact hv
  | true => exact .tup _ #[v', .bool b] (.cons _ _ _ _ hv (.cons _ _ _ _ (.bool b) .nil))
theorem xlook_ro (r : RH L h w U) {t : TypeId} {x k : AV} {x' k' : Value} {ok : Bool} (hx : RV L x x') (hkv : RV L k k') (hk : xlook P t x k ok h ds K) : ∃ v ds' v', K v h ds' ∧ (Instr.lookup t x' k' ok).run P w = .ok v' w ∧ RV L v v' := by
  unfold xlook at hk
  split at hk <;> try exact hk.elim
  rename_i kt et hu
  split at hk <;> try exact hk.elim
  rename_i d hd
  cases hko : keyOKT P d k with
  | false => rw [hko] at hk; exact hk.elim
  | true =>
    rw [hko] at hk
    have hkey := keyOKT_sound hd hkv hko
    dsimp only at hk
    split at hk <;> try exact hk.elim
    · cases hx
      split at hk <;> try exact hk.elim
      rename_i z hz
      obtain ⟨z', e1, e2⟩ := run_zval (P := P) (w := w) (L := L) hz
      refine ro_mk hk (v' := if ok then .tuple #[z', .bool false] else z') ?_ (give_rv e2 _ _)
      have hfk : (Instr.findKey kt k' []).run P w = .ok none w := run_findKey hd rfl
      simp [Instr.lookup, run_underlying hu, hkey.check, hfk, e1]
    · cases hx with
      | map i p hp =>
        split at hk <;> try exact hk.elim
        rename_i bs ck es hi
        obtain ⟨ms, hb, hre, hbo⟩ := r.mem _ _ _ hi hp
        split at hk <;> try exact hk.elim
        · rename_i hf
          split at hk <;> try exact hk.elim
          rename_i z hz
          obtain ⟨z', e1, e2⟩ := run_zval (P := P) (w := w) (L := L) hz
          rcases xfindT_sound (P := P) (w := w) hd hkv hre hf with ⟨_, hn⟩ | ⟨j, v, e, a, _⟩
          · refine ro_mk hk (v' := if ok then .tuple #[z', .bool false] else z') ?_ (give_rv e2 _ _)
            have hfk : (Instr.findKey kt k' ms.toList).run P w = .ok none w := hn
            simp [Instr.lookup, run_underlying hu, MapKept.run_getObj_map (P := P) hb, hkey.check, hfk, e1]
          · cases a
        · rename_i q hf
          rcases xfindT_sound (P := P) (w := w) hd hkv hre hf with ⟨a, _⟩ | ⟨j, v, e, a, hn, hv, _, _⟩
          · cases a
          · cases a
            refine ro_mk hk (v' := if ok then .tuple #[e.val, .bool true] else e.val) ?_ (give_rv hv _ _)
            have hfk := hn
            simp [Instr.lookup, run_underlying hu, MapKept.run_getObj_map (P := P) hb, hkey.check, hfk]

theorem xlook_sound (r : RH L h w U) {t : TypeId} {x k : AV} {x' k' : Value} {ok : Bool} (hx : RV L x x') (hkv : RV L k k') (hk : xlook P t x k ok h ds K) : SemOK P (Instr.lookup t x' k' ok) L h w U K :=
  let ⟨_, _, _, a, b, c⟩ := xlook_ro r hx hkv hk
  .same r a b c

/-! Writing -/
def World.putMap (w : World) (B : Nat) (ms : Array MapEntry) (clk : Nat) : World := { w with heap := w.heap.setIfInBounds B (.map ms clk) }
theorem rh_map (r : RH L h w U) {i : Nat} {p : Loc} {bs bs' : List Nat} {ck : Nat} {es es' : List (AV × AV)} (hi : h.b.get i = some (.map bs ck es)) (hp : L i = some p) {ms ms' : Array MapEntry} {clk clk' : Nat}
    (hb : w.heap[p.B]? = some (.map ms clk)) (hre : REs L es' ms'.toList) (hbo : ms'.toList.map (·.born) = bs') :
    RH L ⟨h.b.set (.map bs' clk' es') i, h.next⟩ (World.putMap w p.B ms' clk') U ∧ Step L L h ⟨h.b.set (.map bs' clk' es') i, h.next⟩ w (World.putMap w p.B ms' clk') := by
  have hsz : (World.putMap w p.B ms' clk').heap.size = w.heap.size := by simp [World.putMap]
  obtain ⟨h1, h2⟩ := heap_set (o' := .map ms' clk') hb
  have h2 : ∀ B, B ≠ p.B → (World.putMap w p.B ms' clk').heap[B]? = w.heap[B]? := h2
  have apart : ∀ j kj q, j ≠ i → h.b.get j = some kj → L j = some q → q.B ≠ p.B := by
    intro j kj q hji hj hq e
    obtain ⟨_, _, hm⟩ := r.sep i j _ _ p q hi hj hp hq (Ne.symm hji) rfl e.symm
    cases hm
  refine ⟨⟨?_, ?_, r.fresh, fun j q hq => by rw [hsz]; exact r.below j q hq, ?_⟩, ⟨Ext.refl L, by rw [hsz]; exact Nat.le_refl _, ?_, ?_, fun _ _ h => .inl h, Nat.le_refl _, rfl, rfl, rfl, ?_⟩⟩
  · intro j k q hj hq
    rcases T.get_set hj with ⟨rfl, rfl⟩ | ⟨hji, hj⟩
    · rw [hp] at hq; cases hq
      exact ⟨ms', h1, hre, hbo⟩
    · exact (r.mem _ _ _ hj hq).keep (h2 _ (apart j k q hji hj hq))
  · intro j l kj kl q s hj hl hq hs hjl hw hB
    have back : ∀ {j k}, (h.b.set (.map bs' clk' es') i).get j = some k → ∃ k0, h.b.get j = some k0 ∧ k0.wr = k.wr ∧ k0.ps = k.ps := by
      intro j k hk
      rcases T.get_set hk with ⟨rfl, rfl⟩ | ⟨_, hk⟩
      · exact ⟨_, hi, rfl, rfl⟩
      · exact ⟨k, hk, rfl, rfl⟩
    obtain ⟨kj0, a1, a2, a3⟩ := back hj
    obtain ⟨kl0, b1, b2, b3⟩ := back hl
    obtain ⟨x, y, z⟩ := r.sep j l _ _ q s a1 b1 hq hs hjl (a2.trans hw) hB
    exact ⟨b2 ▸ x, y, a3 ▸ z⟩
  · intro j k hj
    rcases T.get_set hj with ⟨rfl, rfl⟩ | ⟨_, hk⟩
    · exact r.live _ _ hi
    · exact r.live _ _ hk
  · intro B hB ho
    exact h2 B fun e => ho ⟨i, _, p, hi, rfl, hp, e.symm⟩
  · rintro B ⟨j, k, q, hj, hw, hq, rfl⟩ _
    rcases T.get_set hj with ⟨rfl, rfl⟩ | ⟨_, hk⟩
    · exact ⟨j, _, q, hi, rfl, hq, rfl⟩
    · exact ⟨j, k, q, hk, hw, hq, rfl⟩
  · intro a _
    unfold World.frozen?
    by_cases e : a.block = p.B
    · rw [e, hb]
      show (match (World.putMap w p.B ms' clk').heap[p.B]? with | some (.cells _ _ (lo, hi)) => decide (lo ≤ a.off) && decide (a.off < hi) | _ => false) = _
      rw [show (World.putMap w p.B ms' clk').heap[p.B]? = some (.map ms' clk') from h1]
    · rw [h2 _ e]
theorem born_modify (f : MapEntry → MapEntry) (hf : ∀ e, (f e).born = e.born) : ∀ (ms : List MapEntry) (j : Nat), (ms.modify j f).map (·.born) = ms.map (·.born)
  | [], j => by simp
  | m :: ms, 0 => by simp [hf]
  | m :: ms, j + 1 => by simp [born_modify f hf ms j]
theorem REs.app {es es' : List (AV × AV)} {ms ms' : List MapEntry} (h : REs L es ms) (h' : REs L es' ms') : REs L (es ++ es') (ms ++ ms') := by
  induction h with
  | nil => exact h'
  | cons e m es ms he _ ih => exact .cons e m _ _ he ih
theorem REs.set {k v : AV} {k' v' : Value} (hk : RV L k k') (hv : RV L v v') {es : List (AV × AV)} {ms : List MapEntry} (h : REs L es ms) : ∀ j, REs L (es.set j (k, v)) (ms.modify j fun e => { e with key := k', val := v' }) := by
  induction h with
  | nil => intro j; simp; exact .nil
  | cons e m es ms he hs ih =>
    intro j
    cases j with
    | zero => simp; exact .cons _ _ _ _ ⟨hk, hv⟩ hs
    | succ j => simp; exact .cons _ _ _ _ he (ih j)
theorem REs.del {es : List (AV × AV)} {ms : List MapEntry} (h : REs L es ms) : ∀ j, REs L (es.take j ++ es.drop (j + 1)) (ms.eraseIdx j) := by
  induction h with
  | nil => intro j; simp; exact .nil
  | cons e m es ms he hs ih =>
    intro j
    cases j with
    | zero => simpa using hs
    | succ j => simp; exact .cons _ _ _ _ he (ih j)
def xmapu (P : Program) (t : TypeId) (x k v : AV) (h : H) (ds : List Bool) (K : KV) : Prop := match P.underlying t with
  | some (.map kt _) => match P.underlying kt with
    | some d => Bool.rec False (match x with
      | .map i => match h.b.get i with
        | some (.map bs ck es) => match xfindT P kt d k es 0 with
          | some none => K (.tup []) ⟨h.b.set (.map (lapp bs [ck]) (Nat.succ ck) (lapp es [(k, v)])) i, h.next⟩ ds
          | some (some p) => K (.tup []) ⟨h.b.set (.map bs ck (lset es (k, v) p.1)) i, h.next⟩ ds
          | none => False
        | _ => False
      | _ => False) (keyOKT P d k)
    | none => False
  | _ => False
theorem xmapu_sound (r : RH L h w U) {t : TypeId} {x k v : AV} {x' k' v' : Value} (hx : RV L x x') (hkv : RV L k k') (hv : RV L v v') (hk : xmapu P t x k v h ds K) :
    ∃ h' w', K (.tup []) h' ds ∧ (Instr.mapUpdate t x' k' v').run P w = .ok () w' ∧ RH L h' w' U ∧ Step L L h h' w w' := by
  unfold xmapu at hk
  split at hk <;> try exact hk.elim
  rename_i kt et hu
  split at hk <;> try exact hk.elim
  rename_i d hd
  cases hko : keyOKT P d k with
  | false => rw [hko] at hk; exact hk.elim
  | true =>
    rw [hko] at hk
    have hkey := keyOKT_sound hd hkv hko
    dsimp only at hk
    split at hk <;> try exact hk.elim
    cases hx with
    | map i p hp =>
      split at hk <;> try exact hk.elim
      rename_i bs ck es hi
      obtain ⟨ms, hb, hre, hbo⟩ := r.mem _ _ _ hi hp
      split at hk <;> try exact hk.elim
      · rename_i hf
        simp only [lapp_eq] at hk
        rcases xfindT_sound (P := P) (w := w) hd hkv hre hf with ⟨_, hn⟩ | ⟨j, v, e, a, _⟩
        · have hfk : (Instr.findKey kt k' ms.toList).run P w = .ok none w := hn
          obtain ⟨r1, s1⟩ := rh_map r hi hp hb (es' := es ++ [(k, v)]) (ms' := ms.push { key := k', val := v', born := ck }) (bs' := bs ++ [ck]) (clk' := ck + 1) (by
            rw [Array.toList_push]; exact hre.app (.cons _ _ _ _ ⟨hkv, hv⟩ .nil)) (by rw [Array.toList_push, List.map_append, hbo]; rfl)
          refine ⟨_, _, hk, ?_, r1, s1⟩
          simp [Instr.mapUpdate, run_underlying hu, MapKept.run_getObj_map (P := P) hb, hkey.check, hfk, MapKept.run_setObj_map (P := P) _ hb, World.putMap]
        · cases a
      · rename_i q hf
        rcases xfindT_sound (P := P) (w := w) hd hkv hre hf with ⟨a, _⟩ | ⟨j, v0, e, a, hn, _, he, hek⟩
        · cases a
        · cases a
          have hfk := hn
          rw [lset_eq] at hk
          obtain ⟨r1, s1⟩ := rh_map r hi hp hb (es' := es.set (0 + j) (k, v)) (ms' := ms.modify (0 + j) fun e => { e with key := k', val := v' }) (bs' := bs) (clk' := ck) (by
            rw [Array.toList_modify]; exact hre.set hkv hv _) (by rw [Array.toList_modify]; exact (born_modify (fun e => { e with key := k', val := v' }) (fun _ => rfl) _ _).trans hbo)
          refine ⟨_, _, hk, ?_, r1, s1⟩
          have he' : ms[0 + j]? = some e := by rw [Nat.zero_add]; simpa using he
          have hst : (Instr.keyThatStays (((ms[0 + j]?).map (·.key)).getD k') k').run P w = .ok k' w := by
            rw [he']; simp only [Option.map_some, Option.getD_some]; rw [hek]; exact hkey.stays _
          simp only [Instr.mapUpdate, Sem.run_bind, run_underlying hu, MapKept.run_getObj_map (P := P) hb, hkey.check, hfk, Result.andThen, hst, MapKept.run_setObj_map (P := P) _ hb, World.putMap]
def xmapd (P : Program) (t : TypeId) (x k : AV) (h : H) (ds : List Bool) (K : KV) : Prop := match P.underlying t with
  | some (.map kt _) => match P.underlying kt with
    | some d => Bool.rec False (match x with
      | .nilm => K (.tup []) h ds
      | .map i => match h.b.get i with
        | some (.map bs ck es) => match xfindT P kt d k es 0 with
          | some none => K (.tup []) h ds
          | some (some p) => K (.tup []) ⟨h.b.set (.map (lapp (ltake bs p.1) (ldrop bs (Nat.succ p.1))) ck (lapp (ltake es p.1) (ldrop es (Nat.succ p.1)))) i, h.next⟩ ds
          | none => False
        | _ => False
      | _ => False) (keyOKT P d k)
    | none => False
  | _ => False
theorem putMap_same {B : Nat} {ms : Array MapEntry} {clk : Nat} (hb : w.heap[B]? = some (.map ms clk)) : World.putMap w B ms clk = w := by
  unfold World.putMap
  have : w.heap.setIfInBounds B (.map ms clk) = w.heap := by
    apply Array.ext_getElem?
    intro i
    rw [Array.getElem?_setIfInBounds]
    by_cases e : B = i
    · subst e
      have := (Array.getElem?_eq_some_iff.1 hb).1
      rw [if_pos rfl, if_pos this]; exact hb.symm
    · simp [e]
  rw [this]
theorem xmapd_sound (r : RH L h w U) {t ty : TypeId} {x k : AV} {x' k' : Value} {ts : Array TypeId} (hts : ts[0]? = some t) (hx : RV L x x') (hkv : RV L k k') (hk : xmapd P t x k h ds K) : SemOK P (Builtin.delete_ ts ty #[x', k']) L h w U K := by
  unfold xmapd at hk
  split at hk <;> try exact hk.elim
  rename_i kt et hu
  split at hk <;> try exact hk.elim
  rename_i d hd
  cases hko : keyOKT P d k with
  | false => rw [hko] at hk; exact hk.elim
  | true =>
    rw [hko] at hk
    have hkey := keyOKT_sound hd hkv hko
    dsimp only at hk
    split at hk <;> try exact hk.elim
    · cases hx
      exact .same r hk (v' := .tuple #[]) (by simp [Builtin.delete_, hts, run_underlying hu, hkey.check]) (.tup [] #[] .nil)
    · cases hx with
      | map i p hp =>
        split at hk <;> try exact hk.elim
        rename_i bs ck es hi
        obtain ⟨ms, hb, hre, hbo⟩ := r.mem _ _ _ hi hp
        split at hk <;> try exact hk.elim
        · rename_i hf
          rcases xfindT_sound (P := P) (w := w) hd hkv hre hf with ⟨_, hn⟩ | ⟨j, v, e, a, _⟩
          · have hfk : (Instr.findKey kt k' ms.toList).run P w = .ok none w := hn
            refine .same r hk (v' := .tuple #[]) ?_ (.tup [] #[] .nil)
            have := putMap_same hb
            unfold World.putMap at this
            simp [Builtin.delete_, hts, run_underlying hu, MapKept.run_getObj_map (P := P) hb, hkey.check, hfk, MapKept.run_setObj_map (P := P) _ hb, this]
          · cases a
        · rename_i q hf
          rcases xfindT_sound (P := P) (w := w) hd hkv hre hf with ⟨a, _⟩ | ⟨j, v0, e, a, hn, _, he, hek⟩
          · cases a
          · cases a
            have hfk := hn
            rw [lapp_eq, lapp_eq, ltake_eq, ltake_eq, ldrop_eq, ldrop_eq] at hk
            have hj : 0 + j < ms.size := by have := (List.getElem?_eq_some_iff.1 he).1; simpa using this
            obtain ⟨r1, s1⟩ := rh_map r hi hp hb (es' := es.take (0 + j) ++ es.drop (0 + j + 1)) (ms' := ms.eraseIdxIfInBounds (0 + j)) (bs' := bs.take (0 + j) ++ bs.drop (0 + j + 1)) (clk' := ck) (by
              unfold Array.eraseIdxIfInBounds
              rw [dif_pos hj, Array.toList_eraseIdx]; exact hre.del _) (by
              unfold Array.eraseIdxIfInBounds
              rw [dif_pos hj, Array.toList_eraseIdx, List.eraseIdx_eq_take_drop_succ, List.map_append, List.map_take, List.map_drop, hbo])
            refine ⟨_, _, _, L, .tuple #[], _, hk, ?_, .tup [] #[] .nil, r1, s1⟩
            simp only [Builtin.delete_, hts, List.getElem?_toArray, List.getElem?_cons_zero, List.getElem?_cons_succ, Sem.run_bind, Sem.run_pure, run_underlying hu, MapKept.run_getObj_map (P := P) hb, hkey.check, hfk, Result.andThen, MapKept.run_setObj_map (P := P) _ hb, World.putMap]
def xmkmap (P : Program) (t : TypeId) (x : Option AV) (h : H) (ds : List Bool) (K : KV) : Prop := match x with
  | none => K (.map h.next) (hnew h (.map [] 0 [])) ds
  | some a => match P.underlying t with
    | some (.map _ _) => match a with
      | .int _ _ => K (.map h.next) (hnew h (.map [] 0 [])) ds
      | _ => False
    | _ => False
theorem xmkmap_sound (r : RH L h w U) (hU : ∀ v h' ds', K v h' ds' → h'.next ≤ U) {t : TypeId} {x : Option AV} {x' : Option Value} (hx : RO L x x') (hk : xmkmap P t x h ds K) : SemOK P (Instr.makeMap t x') L h w U K := by
  have fro : ∀ a, (w.alloc (.map #[] 0)).frozen? a = w.frozen? a := by
    intro a
    unfold World.frozen?
    simp only [World.alloc, Array.getElem?_push]
    by_cases h : a.block = w.heap.size
    · rw [if_pos h, Array.getElem?_eq_none (by omega)]
    · rw [if_neg h]
  have mk : K (.map h.next) (hnew h (.map [] 0 [])) ds → (Instr.makeMap t x').run P w = .ok (.map (some w.heap.size)) (w.alloc (.map #[] 0)) → SemOK P (Instr.makeMap t x') L h w U K := by
    intro hk hr
    obtain ⟨L', e1, e2, e3⟩ := rh_new r (hU _ _ _ hk) (.map [] 0 []) (.map #[] 0) (fun a _ => fro a) 0 (fun L' hx => ⟨#[], alloc_new _ _, .nil, rfl⟩)
    exact ⟨_, _, _, L', _, _, hk, hr, .map _ _ e1, e2, e3⟩
  unfold xmkmap at hk
  split at hk
  · cases hx
    exact mk hk (by simp [Instr.makeMap])
  · split at hk <;> try exact hk.elim
    rename_i kt et hu
    split at hk <;> try exact hk.elim
    cases hx with
    | some _ _ hx =>
      cases hx
      exact mk hk (by simp [Instr.makeMap, run_underlying hu, asInt, asIntOf, Result.andThen])
end
end
end Go.X
/- Maps' entries by their stamps; least and greatest; interfaces back to what they hold. -/
set_option autoImplicit false
set_option linter.unusedVariables false
namespace Go.X
noncomputable section
open MapKept
/-- the place of a stamp -/
def xstamp (bs : List Nat) (n : Int) : Nat → Option Nat :=
  List.rec (motive := fun _ => Nat → Option Nat) (fun _ => none) (fun b _ ih i => Bool.rec (ih (Nat.succ i)) (some i) (eqI (Int.ofNat b) n)) bs
def xmx (m gt : Bool) (x y : AV) (h : H) (ds : List Bool) (K : KV) : Prop := match x with
  | .int k a => match y with
    | .int _ b => dcd m (Bool.rec (ltI b a) (ltI a b) gt) ds fun c ds => K (.int k (Bool.rec a b c)) h ds
    | _ => False
  | _ => False
def xmme (P : Program) (t : TypeId) (x k : AV) (h : H) (ds : List Bool) (K : KV) : Prop := match P.underlying t with
  | some (.map kt et) => match P.underlying kt with
    | some d => Bool.rec False (match x with
      | .map i => match h.b.get i with
        | some (.map bs ck es) => match xfindT P kt d k es 0 with
          | some none => match zval P et with
            | some z => K (.tup [z, .int .i64 (Int.ofNat ck)]) ⟨h.b.set (.map (lapp bs [ck]) (Nat.succ ck) (lapp es [(k, z)])) i, h.next⟩ ds
            | none => False
          | some (some p) => match lget bs p.1 with
            | some b => K (.tup [p.2, .int .i64 (Int.ofNat b)]) ⟨h.b.set (.map bs ck (lset es (k, p.2) p.1)) i, h.next⟩ ds
            | none => False
          | none => False
        | _ => False
      | _ => False) (keyOKT P d k)
    | none => False
  | _ => False
def xmes (x st v : AV) (h : H) (ds : List Bool) (K : KV) : Prop := match x with
  | .map i => match st with
    | .int _ n => match h.b.get i with
      | some (.map bs ck es) => match xstamp bs n 0 with
        | some j => match lget es j with
          | some e => K (.tup []) ⟨h.b.set (.map bs ck (lset es (e.1, v) j)) i, h.next⟩ ds
          | none => False
        | none => False
      | _ => False
    | _ => False
  | _ => False
def isIfcT (P : Program) (t : TypeId) : Bool := match P.underlying t with
  | some (.interface _) => true
  | some _ => false
  | none => true
def xtas (P : Program) (x : AV) (t : TypeId) (ok : Bool) (h : H) (ds : List Bool) (K : KV) : Prop := match x with
  | .ifc u v => Bool.rec False (K (Bool.rec v (.tup [v, .bool true]) ok) h ds) (Bool.and (Nat.beq u t) (Bool.not (isIfcT P t)))
  | _ => False
section
variable {P : Program} {L : LM} {h : H} {w : World} {U : Nat} {m : Bool} {ds : List Bool} {K : KV}
theorem xmx_sound (r : RH L h w U) {gt : Bool} {x y : AV} {x' y' : Value} (hx : RV L x x') (hy : RV L y y') (hk : xmx m gt x y h ds K) : SemOK P (Bool.rec (Builtin.min2 x' y') (Builtin.max2 x' y') gt) L h w U K := by
  unfold xmx at hk
  split at hk <;> try exact hk.elim
  split at hk <;> try exact hk.elim
  rename_i k a _ k2 b
  cases hx; cases hy
  obtain ⟨ds', hk⟩ := dcd_of hk
  cases gt with
  | true =>
    refine .same r hk (v' := .int k (if b > a then b else a)) rfl ?_
    have : (Bool.rec a b (ltI a b) : Int) = if b > a then b else a := by
      rw [ltI_eq]; by_cases c : a < b
      · simp [c]
      · simp [c]
    rw [← this]; exact .int _ _
  | false =>
    refine .same r hk (v' := .int k (if b < a then b else a)) rfl ?_
    have : (Bool.rec a b (ltI b a) : Int) = if b < a then b else a := by
      rw [ltI_eq]; by_cases c : b < a
      · simp [c]
      · simp [c]
    rw [← this]; exact .int _ _
theorem xmme_sound (r : RH L h w U) {t : TypeId} {x k : AV} {x' k' : Value} (hx : RV L x x') (hkv : RV L k k') (hk : xmme P t x k h ds K) : SemOK P (Instr.mapEntry t x' k') L h w U K := by
  unfold xmme at hk
  split at hk <;> try exact hk.elim
  rename_i kt et hu
  split at hk <;> try exact hk.elim
  rename_i d hd
  cases hko : keyOKT P d k with
  | false => rw [hko] at hk; exact hk.elim
  | true =>
    rw [hko] at hk
    have hkey := keyOKT_sound hd hkv hko
    dsimp only at hk
    split at hk <;> try exact hk.elim
    cases hx with
    | map i p hp =>
      split at hk <;> try exact hk.elim
      rename_i bs ck es hi
      obtain ⟨ms, hb, hre, hbo⟩ := r.mem _ _ _ hi hp
      split at hk <;> try exact hk.elim
      · rename_i hf
        split at hk <;> try exact hk.elim
        rename_i z hz
        obtain ⟨z', e1, e2⟩ := run_zval (P := P) (w := w) (L := L) hz
        simp only [lapp_eq] at hk
        rcases xfindT_sound (P := P) (w := w) hd hkv hre hf with ⟨_, hn⟩ | ⟨j, v, e, a, _⟩
        · have hfk : (Instr.findKey kt k' ms.toList).run P w = .ok none w := hn
          obtain ⟨r1, s1⟩ := rh_map r hi hp hb (es' := es ++ [(k, z)]) (ms' := ms.push { key := k', val := z', born := ck }) (bs' := bs ++ [ck]) (clk' := ck + 1) (by
            rw [Array.toList_push]; exact hre.app (.cons _ _ _ _ ⟨hkv, e2⟩ .nil)) (by rw [Array.toList_push, List.map_append, hbo]; rfl)
          refine ⟨_, _, _, L, .tuple #[z', goInt ck], _, hk, ?_, .tup _ #[z', goInt ck] (.cons _ _ _ _ e2 (.cons _ _ _ _ (.int _ _) .nil)), r1, s1⟩
          simp [Instr.mapEntry, run_underlying hu, MapKept.run_getObj_map (P := P) hb, hkey.check, hfk, e1, Result.andThen, MapKept.run_setObj_map (P := P) _ hb, World.putMap]
        · cases a
      · rename_i q hf
        split at hk <;> try exact hk.elim
        rename_i b hbq
        rcases xfindT_sound (P := P) (w := w) hd hkv hre hf with ⟨a, _⟩ | ⟨j, v0, e, a, hn, hv0, he, hek⟩
        · cases a
        · cases a
          have hfk := hn
          rw [lset_eq] at hk
          rw [lget_eq] at hbq
          have he' : ms[0 + j]? = some e := by rw [Nat.zero_add]; simpa using he
          have hborn : e.born = b := by
            rw [← hbo, List.getElem?_map] at hbq
            have : ms.toList[0 + j]? = some e := by simpa using he'
            dsimp only at hbq
            rw [this] at hbq; simpa using hbq
          have hv : ∀ (f : MapEntry → MapEntry), (∀ x, x = e → (f x).key = k' ∧ (f x).val = e.val) → REs L (es.set (0 + j) (k, v0)) (ms.toList.modify (0 + j) f) := by
            intro f hf
            have key : ∀ {es : List (AV × AV)} {ms : List MapEntry} (j : Nat), REs L es ms → ms[j]? = some e → REs L (es.set j (k, v0)) (ms.modify j f) := by
              intro es ms j hre
              induction hre generalizing j with
              | nil => intro h; simp at h
              | cons x y xs ys hx hxs ih =>
                intro h
                cases j with
                | zero =>
                  simp at h
                  obtain ⟨f1, f2⟩ := hf y h
                  simp only [List.set_cons_zero, List.modify_zero_cons]
                  exact .cons _ _ _ _ ⟨by rw [f1]; exact hkv, by rw [f2]; exact hv0⟩ hxs
                | succ j =>
                  simp only [List.set_cons_succ, List.modify_succ_cons]
                  exact .cons _ _ _ _ hx (ih j (by simpa using h))
            exact key _ hre (by simpa using he')
          obtain ⟨r1, s1⟩ := rh_map r hi hp hb (es' := es.set (0 + j) (k, v0)) (ms' := ms.modify (0 + j) fun e => { e with key := k' }) (bs' := bs) (clk' := ck) (by
            rw [Array.toList_modify]; exact hv _ fun x hx => by subst hx; exact ⟨rfl, rfl⟩) (by rw [Array.toList_modify]; exact (born_modify (fun e => { e with key := k' }) (fun _ => rfl) _ _).trans hbo)
          refine ⟨_, _, _, L, .tuple #[e.val, goInt b], _, hk, ?_, .tup _ #[e.val, goInt b] (.cons _ _ _ _ hv0 (.cons _ _ _ _ (.int _ _) .nil)), r1, s1⟩
          have hst : (Instr.keyThatStays (((ms[0 + j]?).map (·.key)).getD k') k').run P w = .ok k' w := by
            rw [he']; simp only [Option.map_some, Option.getD_some]; rw [hek]; exact hkey.stays _
          have hb2 : ((ms[0 + j]?).map (fun x => (x.born : Int))).getD 0 = (b : Int) := by rw [he', ← hborn]; rfl
          simp only [Instr.mapEntry, Sem.run_bind, run_underlying hu, MapKept.run_getObj_map (P := P) hb, hkey.check, hfk, Result.andThen, hst, MapKept.run_setObj_map (P := P) _ hb, World.putMap, hb2, Sem.run_pure]
theorem stamp_find {n : Int} : ∀ {ms : List MapEntry} {bs : List Nat}, ms.map (·.born) = bs → ∀ {i j : Nat}, xstamp bs n i = some j → ∃ l, j = i + l ∧ ms.findIdx? (fun e => (e.born : Int) == n) = some l
  | [], bs, h, i, j, hk => by subst h; cases hk
  | m :: ms, bs, h, i, j, hk => by
    subst h
    have hk : (Bool.rec (xstamp (ms.map (·.born)) n (Nat.succ i)) (some i) (eqI (Int.ofNat m.born) n) : Option Nat) = some j := hk
    rw [List.findIdx?_cons]
    cases hb : eqI (Int.ofNat m.born) n with
    | true =>
      rw [hb] at hk; cases hk
      rw [eqI_eq] at hb
      have hb : ((m.born : Int) == n) = true := hb
      exact ⟨0, rfl, by simp [hb]⟩
    | false =>
      rw [hb] at hk
      rw [eqI_eq] at hb
      have hb : ((m.born : Int) == n) = false := hb
      obtain ⟨l, e1, e2⟩ := stamp_find rfl hk
      exact ⟨l + 1, by omega, by simp [hb, e2]⟩
theorem REs.get {es : List (AV × AV)} {ms : List MapEntry} (h : REs L es ms) : ∀ {j : Nat} {e : AV × AV}, es[j]? = some e → ∃ m, ms[j]? = some m ∧ RE L e m := by
  induction h with
  | nil => intro j e h; simp at h
  | cons x y xs ys hx hxs ih =>
    intro j e h
    cases j with
    | zero => simp at h; subst h; exact ⟨y, rfl, hx⟩
    | succ j => obtain ⟨m, a, b⟩ := ih (by simpa using h); exact ⟨m, by simpa using a, b⟩
theorem REs.setv {v : AV} {v' : Value} (hv : RV L v v') {es : List (AV × AV)} {ms : List MapEntry} (h : REs L es ms) : ∀ {j : Nat} {e : AV × AV}, es[j]? = some e → REs L (es.set j (e.1, v)) (ms.modify j fun m => { m with val := v' }) := by
  induction h with
  | nil => intro j e h; simp at h
  | cons x y xs ys hx hxs ih =>
    intro j e h
    cases j with
    | zero => simp at h; subst h; simp only [List.set_cons_zero, List.modify_zero_cons]; exact .cons _ _ _ _ ⟨hx.1, hv⟩ hxs
    | succ j => simp only [List.set_cons_succ, List.modify_succ_cons]; exact .cons _ _ _ _ hx (ih (by simpa using h))
theorem xmes_sound (r : RH L h w U) {t : TypeId} {x st v : AV} {x' st' v' : Value} (hx : RV L x x') (hs : RV L st st') (hv : RV L v v') (hk : xmes x st v h ds K) :
    ∃ h' w', K (.tup []) h' ds ∧ (Instr.entryStore t x' st' v').run P w = .ok () w' ∧ RH L h' w' U ∧ Step L L h h' w w' := by
  unfold xmes at hk
  split at hk <;> try exact hk.elim
  split at hk <;> try exact hk.elim
  rename_i kk n
  cases hs with
  | int _ _ =>
  cases hx with
  | map i p hp =>
    split at hk <;> try exact hk.elim
    rename_i bs ck es hi
    obtain ⟨ms, hb, hre, hbo⟩ := r.mem _ _ _ hi hp
    split at hk <;> try exact hk.elim
    rename_i j hj
    split at hk <;> try exact hk.elim
    rename_i e he
    rw [lget_eq] at he
    rw [lset_eq] at hk
    obtain ⟨l, e1, e2⟩ := stamp_find hbo hj
    have e1 : j = l := by omega
    subst e1
    have e3 : ms.findIdx? (fun e => (e.born : Int) == n) = some j := by
      rw [← e2, ← List.findIdx?_toArray]
    obtain ⟨r1, s1⟩ := rh_map r hi hp hb (es' := es.set j (e.1, v)) (ms' := ms.modify j fun e => { e with val := v' }) (bs' := bs) (clk' := ck) (by
      rw [Array.toList_modify]; exact hre.setv hv he) (by rw [Array.toList_modify]; exact (born_modify (fun e => { e with val := v' }) (fun _ => rfl) _ _).trans hbo)
    refine ⟨_, _, hk, ?_, r1, s1⟩
    simp [Instr.entryStore, MapKept.run_getObj_map (P := P) hb, asInt, asIntOf, Result.andThen, e3, MapKept.run_setObj_map (P := P) _ hb, World.putMap]
theorem xtas_sound (r : RH L h w U) {x : AV} {x' : Value} {xt t : TypeId} {ok : Bool} (hx : RV L x x') (hk : xtas P x t ok h ds K) : SemOK P (Instr.typeAssert x' xt t ok) L h w U K := by
  unfold xtas at hk
  split at hk <;> try exact hk.elim
  rename_i u v
  cases hb : Bool.and (Nat.beq u t) (Bool.not (isIfcT P t)) with
  | false => rw [hb] at hk; exact hk.elim
  | true =>
    rw [hb] at hk
    obtain ⟨h1, h2⟩ := band' hb
    have e : u = t := Nat.eq_of_beq_eq_true h1
    subst e
    cases hx with
    | ifc _ _ v' hv =>
      refine .same r hk (v' := if ok then .tuple #[v', .bool true] else v') ?_ (give_rv hv _ _)
      unfold isIfcT at h2
      split at h2
      · cases h2
      · rename_i d hni hd
        have hu := run_underlying (P := P) (w := w) hd
        cases d <;> first
          | (exact absurd rfl (hni _))
          | (simp [Instr.typeAssert, hu, Result.andThen])
      · cases h2
end
end
end Go.X
/- Ranges over maps of one entry. -/
set_option autoImplicit false
set_option linter.unusedVariables false
namespace Go.X
noncomputable section
open MapKept
def memN (b : Nat) (l : List Nat) : Bool := List.rec false (fun x _ ih => Bool.rec ih true (Nat.beq x b)) l
/-- which entry is left: none where it can't be said; at most one, an old one -/
def pickN (seen : List Nat) (since : Nat) (bs : List Nat) : Nat → Option (Option Nat) :=
  List.rec (motive := fun _ => Nat → Option (Option Nat)) (fun _ => some none) (fun b _ ih j =>
    Bool.rec (Bool.rec none (Option.rec none (fun r => Option.rec (some (some j)) (fun _ => none) r) (ih (Nat.succ j))) (Nat.ble (Nat.succ b) since)) (ih (Nat.succ j)) (memN b seen)) bs
def allGeN (last : Nat) (bs : List Nat) : Bool := List.rec true (fun b _ ih => Bool.rec false ih (Nat.ble last b)) bs
def nilN (l : List Nat) : Bool := List.rec true (fun _ _ _ => false) l
/-- is all that was there at the last step gone? -/
def goneN (seen : List Nat) (last : Nat) (bs : List Nat) : Bool := Bool.rec (Bool.rec (allGeN last bs) false (nilN bs)) false (nilN seen)
def xrng (P : Program) (t : TypeId) (x : AV) (h : H) (ds : List Bool) (K : KV) : Prop := match P.underlying t with
  | some (.map _ _) => match x with
    | .map i => match h.b.get i with
      | some (.map _ ck _) => K (.ptr h.next 0) (hnew h (.it (.map i) ck [] ck)) ds
      | _ => False
    | _ => False
  | _ => False
def xnxt (x : AV) (isStr : Bool) (h : H) (ds : List Bool) (K : KV) : Prop := match isStr with
  | true => False
  | false => match x with
    | .ptr r o => match o with
      | 0 => match h.b.get r with
        | some (.it y since seen last) => match y with
          | .map i => match h.b.get i with
            | some (.map bs ck es) => match goneN seen last bs with
              | true => False
              | false => match pickN seen since bs 0 with
                | none => False
                | some none => K (.tup [.bool false]) h ds
                | some (some j) => match lget es j with
                  | none => False
                  | some e => match lget bs j with
                    | none => False
                    | some b => K (.tup [.bool true, e.1, e.2]) ⟨h.b.set (.it (.map i) since (lapp seen [b]) ck) r, h.next⟩ ds
            | _ => False
          | _ => False
        | _ => False
      | _ => False
    | _ => False
def lastN (l : List Nat) : Option Nat := List.rec none (fun x _ ih => Option.rec (some x) (fun y => some y) ih) l
def idxN (s : Nat) (bs : List Nat) : Nat → Option Nat := List.rec (motive := fun _ => Nat → Option Nat) (fun _ => none) (fun b _ ih j => Bool.rec (ih (Nat.succ j)) (some j) (Nat.beq b s)) bs
def xent (x : AV) (h : H) (ds : List Bool) (K : KV) : Prop := match x with
  | .ptr r o => match o with
    | 0 => match h.b.get r with
      | some (.it y _ seen last) => match y with
        | .map i => match lastN seen with
          | none => False
          | some s => match h.b.get i with
            | some (.map bs ck es) => match Nat.beq ck last with
              | false => False
              | true => match idxN s bs 0 with
                | none => False
                | some j => match lget es j with
                  | none => False
                  | some e => K (.tup [e.1, e.2]) h ds
            | _ => False
        | _ => False
      | _ => False
    | _ => False
  | _ => False
theorem lastN_eq : ∀ l : List Nat, lastN l = l.getLast?
  | [] => rfl
  | x :: l => by
    have ih := lastN_eq l
    show (Option.rec (some x) (fun y => some y) (lastN l) : Option Nat) = _
    rw [ih, List.getLast?_cons]
    cases l.getLast? <;> rfl
theorem idxN_eq {s : Nat} : ∀ {ms : List MapEntry} {j k : Nat}, idxN s (ms.map (·.born)) j = some k → ∃ i e, k = j + i ∧ ms[i]? = some e ∧ ms.find? (fun e => e.born == s) = some e
  | [], j, k, h => by cases h
  | m :: ms, j, k, h => by
    have h : (Bool.rec (idxN s (ms.map (·.born)) (j + 1)) (some j) (Nat.beq m.born s) : Option Nat) = some k := h
    cases hb : Nat.beq m.born s with
    | true =>
      rw [hb] at h
      have h : some j = some k := h
      cases h
      have hb : (m.born == s) = true := by have := Nat.eq_of_beq_eq_true hb; simp [this]
      exact ⟨0, m, rfl, rfl, by rw [List.find?_cons, hb]⟩
    | false =>
      rw [hb] at h
      obtain ⟨i, e, a, b, c⟩ := idxN_eq (by exact h)
      have hb : (m.born == s) = false := by have := Nat.ne_of_beq_eq_false hb; simp [this]
      exact ⟨i + 1, e, by omega, b, by rw [List.find?_cons, hb]; exact c⟩

theorem memN_eq (b : Nat) : ∀ l : List Nat, memN b l = l.toArray.contains b
  | [] => by simp [memN]
  | x :: l => by
    have ih := memN_eq b l
    show (Bool.rec (memN b l) true (Nat.beq x b) : Bool) = _
    rw [ih]
    cases e : Nat.beq x b with
    | true => have := Nat.eq_of_beq_eq_true e; subst this; simp
    | false => have := Nat.ne_of_beq_eq_false e; simp [Ne.symm this]
theorem allGeN_eq (last : Nat) : ∀ bs : List Nat, allGeN last bs = bs.all fun b => decide (b ≥ last)
  | [] => rfl
  | b :: bs => by
    have ih := allGeN_eq last bs
    show (Bool.rec false (allGeN last bs) (Nat.ble last b) : Bool) = _
    rw [ih]
    cases e : Nat.ble last b with
    | true => have := Nat.le_of_ble_eq_true e; simp [this]
    | false =>
      have : ¬ last ≤ b := fun h => by rw [Nat.ble_eq_true_of_le h] at e; cases e
      simp [this]
theorem goneN_eq {seen : List Nat} {last : Nat} {ms : List MapEntry} (h : goneN seen last (ms.map (·.born)) = false) : (!seen.toArray.isEmpty && !ms.toArray.isEmpty && ms.toArray.all (·.born ≥ last)) = false := by
  cases seen with
  | nil => simp
  | cons s seen =>
    cases ms with
    | nil => simp
    | cons m ms =>
      have h : allGeN last ((m :: ms).map (·.born)) = false := h
      rw [allGeN_eq] at h
      simp at h ⊢
      exact h
theorem pickN_eq {seen : List Nat} {since : Nat} : ∀ {ms : List MapEntry} {j : Nat} {r : Option Nat}, pickN seen since (ms.map (·.born)) j = some r →
    match r with
    | none => ms.filter (fun e => !seen.toArray.contains e.born) = []
    | some k => ∃ i e, k = j + i ∧ ms[i]? = some e ∧ e.born < since ∧ ms.filter (fun e => !seen.toArray.contains e.born) = [e]
  | [], j, r, h => by
    have h : some none = some r := h
    cases h; rfl
  | m :: ms, j, r, h => by
    have h : (Bool.rec (Bool.rec none (Option.rec none (fun r => Option.rec (some (some j)) (fun _ => none) r) (pickN seen since (ms.map (·.born)) (j + 1))) (Nat.ble (Nat.succ m.born) since)) (pickN seen since (ms.map (·.born)) (j + 1)) (memN m.born seen) : Option (Option Nat)) = some r := h
    cases hm : memN m.born seen with
    | true =>
      rw [hm] at h
      have ih := pickN_eq (by exact h)
      rw [memN_eq] at hm
      cases r with
      | none => show (m :: ms).filter _ = []; rw [List.filter_cons, hm]; exact ih
      | some k =>
        obtain ⟨i, e, a, b, c, d⟩ := ih
        exact ⟨i + 1, e, by omega, b, c, by rw [List.filter_cons, hm]; exact d⟩
    | false =>
      rw [hm] at h
      have h : (Bool.rec none (Option.rec none (fun r => Option.rec (some (some j)) (fun _ => none) r) (pickN seen since (ms.map (·.born)) (j + 1))) (Nat.ble (Nat.succ m.born) since) : Option (Option Nat)) = some r := h
      cases hb : Nat.ble (Nat.succ m.born) since with
      | false => rw [hb] at h; cases h
      | true =>
        rw [hb] at h
        cases hp : pickN seen since (ms.map (·.born)) (j + 1) with
        | none => rw [hp] at h; cases h
        | some q =>
          rw [hp] at h
          cases q with
          | some _ => cases h
          | none =>
            have h : some (some j) = some r := h
            cases h
            have ih : ms.filter _ = [] := pickN_eq hp
            rw [memN_eq] at hm
            exact ⟨0, m, rfl, rfl, Nat.le_of_ble_eq_true hb, by rw [List.filter_cons, hm, ih]; rfl⟩

section
variable {P : Program} {L : LM} {h : H} {w : World} {U : Nat} {ds : List Bool} {K : KV}
theorem run_getObj_it {B : Nat} {m : Option Nat} {a b : Nat} {s : Array Nat} (hb : w.heap[B]? = some (.mapIter m a s b)) : (getObj B).run P w = .ok (.mapIter m a s b) w := by simp [getObj, Sem.run, hb]
theorem run_setObj_it {B : Nat} {m : Option Nat} {a b : Nat} {s : Array Nat} (o : Obj) (hb : w.heap[B]? = some (.mapIter m a s b)) : (setObj B o).run P w = .ok () { w with heap := w.heap.setIfInBounds B o } := by simp [setObj, Sem.run, hb]
theorem run_choose1 : (choose (.mapNext 1)).run P w = .ok 0 w := by simp [choose, Sem.run, Question.forced]
theorem rh_it (r : RH L h w U) {i : Nat} {p : Loc} {y : AV} {a b b' : Nat} {s s' : List Nat} (hi : h.b.get i = some (.it y a s b)) (hp : L i = some p) {m : Nat} (hb : w.heap[p.B]? = some (.mapIter (some m) a s.toArray b)) :
    RH L ⟨h.b.set (.it y a s' b') i, h.next⟩ { w with heap := w.heap.setIfInBounds p.B (.mapIter (some m) a s'.toArray b') } U ∧
    Step L L h ⟨h.b.set (.it y a s' b') i, h.next⟩ w { w with heap := w.heap.setIfInBounds p.B (.mapIter (some m) a s'.toArray b') } := by
  have hlt := (Array.getElem?_eq_some_iff.1 hb).1
  have hsz : (w.heap.setIfInBounds p.B (.mapIter (some m) a s'.toArray b')).size = w.heap.size := by simp
  have h1 : (w.heap.setIfInBounds p.B (.mapIter (some m) a s'.toArray b'))[p.B]? = some (.mapIter (some m) a s'.toArray b') := by
    rw [Array.getElem?_setIfInBounds]; simp [hlt]
  have h2 : ∀ B, B ≠ p.B → (w.heap.setIfInBounds p.B (.mapIter (some m) a s'.toArray b'))[B]? = w.heap[B]? := fun B hB => by
    rw [Array.getElem?_setIfInBounds, if_neg (Ne.symm hB)]
  have apart : ∀ l kl q, l ≠ i → h.b.get l = some kl → L l = some q → q.B ≠ p.B := by
    intro l kl q hli hl hq e
    obtain ⟨_, _, hm⟩ := r.sep i l _ _ p q hi hl hp hq (Ne.symm hli) rfl e.symm
    cases hm
  refine ⟨⟨?_, ?_, r.fresh, fun l q hq => by show q.B < _; rw [hsz]; exact r.below l q hq, ?_⟩, ⟨Ext.refl L, by rw [hsz]; exact Nat.le_refl _, ?_, ?_, fun _ _ h => .inl h, Nat.le_refl _, rfl, rfl, rfl, fun x _ => ?_⟩⟩
  · intro l k q hl hq
    rcases T.get_set hl with ⟨rfl, rfl⟩ | ⟨hli, hl⟩
    · rw [hp] at hq; cases hq
      obtain ⟨m0, e1, e2, e3⟩ := r.mem _ _ _ hi hp
      rw [hb] at e1; cases e1
      exact ⟨m, h1, e2, e3⟩
    · exact (r.mem _ _ _ hl hq).keep (h2 _ (apart l k q hli hl hq))
  · intro l j kl kj q s hl hj hq hs hlj hw hB
    have back : ∀ {l k}, (h.b.set (.it y a s' b') i).get l = some k → ∃ k0, h.b.get l = some k0 ∧ k0.wr = k.wr ∧ k0.ps = k.ps := by
      intro l k hk
      rcases T.get_set hk with ⟨rfl, rfl⟩ | ⟨_, hk⟩
      · exact ⟨_, hi, rfl, rfl⟩
      · exact ⟨k, hk, rfl, rfl⟩
    obtain ⟨kl0, a1, a2, a3⟩ := back hl
    obtain ⟨km0, b1, b2, b3⟩ := back hj
    obtain ⟨x, y, z⟩ := r.sep l j _ _ q s a1 b1 hq hs hlj (a2.trans hw) hB
    exact ⟨b2 ▸ x, y, a3 ▸ z⟩
  · intro l k hl
    rcases T.get_set hl with ⟨rfl, _⟩ | ⟨_, hl⟩
    · exact r.live _ _ hi
    · exact r.live _ _ hl
  · intro B hB ho
    exact h2 B fun e => ho ⟨i, _, p, hi, rfl, hp, e.symm⟩
  · rintro B ⟨l, k, q, hl, hw, hq, rfl⟩ _
    rcases T.get_set hl with ⟨rfl, rfl⟩ | ⟨hli, hl⟩
    · exact ⟨l, _, q, hi, rfl, hq, rfl⟩
    · exact ⟨l, k, q, hl, hw, hq, rfl⟩
  · unfold World.frozen?
    by_cases e : x.block = p.B
    · rw [e, hb]
      show (match (w.heap.setIfInBounds p.B (.mapIter (some m) a s'.toArray b'))[p.B]? with | some (.cells _ _ (lo, hi)) => decide (lo ≤ x.off) && decide (x.off < hi) | _ => false) = _
      rw [h1]
    · show (match (w.heap.setIfInBounds p.B (.mapIter (some m) a s'.toArray b'))[x.block]? with | some (.cells _ _ (lo, hi)) => decide (lo ≤ x.off) && decide (x.off < hi) | _ => false) = _
      rw [h2 _ e]
      rfl
theorem xent_sound (r : RH L h w U) {x : AV} {x' : Value} (hx : RV L x x') (hk : xent x h ds K) : SemOK P (Instr.entry x') L h w U K := by
  unfold xent at hk
  split at hk <;> try exact hk.elim
  split at hk <;> try exact hk.elim
  rename_i q
  split at hk <;> try exact hk.elim
  rename_i y since seen last hq
  split at hk <;> try exact hk.elim
  rename_i i
  split at hk <;> try exact hk.elim
  rename_i s hs
  split at hk <;> try exact hk.elim
  rename_i bs ck es hi
  split at hk <;> try exact hk.elim
  rename_i hc
  split at hk <;> try exact hk.elim
  rename_i j hj
  split at hk <;> try exact hk.elim
  rename_i e he
  rw [lget_eq] at he
  have hc := Nat.eq_of_beq_eq_true hc
  subst hc
  cases hx with
  | ptr _ _ p hp =>
    obtain ⟨m, hit, ho, hmv⟩ := r.mem _ _ _ hq hp
    cases hmv with
    | map _ pm hpm =>
      obtain ⟨ms, hb, hre, hbo⟩ := r.mem _ _ _ hi hpm
      subst hbo
      obtain ⟨i0, me, a1, a2, a3⟩ := idxN_eq hj
      have a1 : j = i0 := by omega
      subst a1
      obtain ⟨me2, me3, ek, ev⟩ := hre.get he
      rw [a2] at me3; cases me3
      have f1 : seen.toArray.back? = some s := by rw [List.back?_toArray, ← lastN_eq, hs]
      have f2 : ms.find? (fun e => e.born == s) = some me := by rw [← Array.find?_toList]; exact a3
      refine ⟨_, _, _, L, .tuple #[me.key, me.val], w, hk, ?_, .tup _ _ (.cons _ _ _ _ ek (.cons _ _ _ _ ev .nil)), r, Step.refl L h w⟩
      simp only [Instr.entry, ho, Nat.zero_add, Sem.run_bind, run_getObj_it (P := P) hit, MapKept.run_getObj_map (P := P) hb, Result.andThen_ok, f1]
      simp [f2]
theorem xrng_sound (r : RH L h w U) (hU : ∀ v h' ds', K v h' ds' → h'.next ≤ U) {t : TypeId} {x : AV} {x' : Value} (hx : RV L x x') (hk : xrng P t x h ds K) : SemOK P (Instr.range t x') L h w U K := by
  unfold xrng at hk
  split at hk <;> try exact hk.elim
  rename_i kt et hu
  split at hk <;> try exact hk.elim
  rename_i i
  cases hx with
  | map _ p hp =>
    split at hk <;> try exact hk.elim
    rename_i bs ck es hi
    obtain ⟨ms, hb, hre, hbo⟩ := r.mem _ _ _ hi hp
    have fro : ∀ a, (w.alloc (.mapIter (some p.B) ck #[] ck)).frozen? a = w.frozen? a := by
      intro a
      unfold World.frozen?
      simp only [World.alloc, Array.getElem?_push]
      by_cases h : a.block = w.heap.size
      · rw [if_pos h, Array.getElem?_eq_none (by omega)]
      · rw [if_neg h]
    obtain ⟨L', e1, e2, e3⟩ := rh_new r (hU _ _ _ hk) (.it (.map i) ck [] ck) (.mapIter (some p.B) ck #[] ck) (fun a _ => fro a) 0 (fun L' hx => ⟨p.B, alloc_new _ _, rfl, .map _ _ (hx _ _ hp)⟩)
    exact ⟨_, _, _, L', _, _, hk, by simp [Instr.range, run_underlying hu, MapKept.run_getObj_map (P := P) hb, Result.andThen], .ptr _ _ _ e1, e2, e3⟩
theorem xnxt_sound (r : RH L h w U) {x : AV} {x' : Value} {isStr : Bool} {t : TypeId} (hx : RV L x x') (hk : xnxt x isStr h ds K) : SemOK P (Instr.next x' isStr t) L h w U K := by
  unfold xnxt at hk
  cases isStr with
  | true => exact hk.elim
  | false =>
    dsimp only at hk
    split at hk <;> try exact hk.elim
    split at hk <;> try exact hk.elim
    rename_i q
    split at hk <;> try exact hk.elim
    rename_i y since seen last hq
    split at hk <;> try exact hk.elim
    rename_i i
    split at hk <;> try exact hk.elim
    rename_i bs ck es hi
    split at hk <;> try exact hk.elim
    rename_i hg
    cases hx with
    | ptr _ _ p hp =>
      obtain ⟨m, hit, ho, hmv⟩ := r.mem _ _ _ hq hp
      cases hmv with
      | map _ pm hpm =>
        obtain ⟨ms, hb, hre, hbo⟩ := r.mem _ _ _ hi hpm
        subst hbo
        have g0 := goneN_eq hg
        simp only [Array.toArray_toList] at g0
        have f0 : (ms.filter fun e => !seen.toArray.contains e.born).toList = ms.toList.filter (fun e => !seen.toArray.contains e.born) := by simp
        split at hk <;> try exact hk.elim
        · rename_i hpk
          have f1 := pickN_eq hpk
          dsimp only at f1
          have f2 : (ms.filter fun e => !seen.toArray.contains e.born) = #[] := by apply Array.toList_inj.1; rw [f0, f1]
          refine ⟨_, _, _, L, .tuple #[.bool false], w, hk, ?_, .tup _ _ (.cons _ _ _ _ (.bool _) .nil), r, Step.refl L h w⟩
          simp only [Instr.next, ho, Nat.zero_add, Sem.run_bind, run_getObj_it (P := P) hit, MapKept.run_getObj_map (P := P) hb, Result.andThen_ok, g0, Bool.false_eq_true, if_false, f2]
          have c1 : ((if (Array.filter (fun x => decide (x.born < since)) (#[] : Array MapEntry)).isEmpty = true then #[none] else #[]) ++ Array.map some (Array.filter (fun x => decide (x.born < since)) (#[] : Array MapEntry) ++ Array.filter (fun x => decide (x.born ≥ since)) (#[] : Array MapEntry))) = #[none] := by simp
          rw [c1]
          simp [Question.forced]
        · rename_i j hpk
          split at hk <;> try exact hk.elim
          rename_i e he
          split at hk <;> try exact hk.elim
          rename_i b hbj
          rw [lget_eq] at he hbj
          obtain ⟨i0, me, a1, a2, a3, f1⟩ := pickN_eq hpk
          have a1 : j = i0 := by omega
          subst a1
          have f2 : (ms.filter fun e => !seen.toArray.contains e.born) = #[me] := by apply Array.toList_inj.1; rw [f0, f1]
          obtain ⟨me2, me3, ek, ev⟩ := hre.get he
          rw [a2] at me3; cases me3
          have hbb : b = me.born := by
            rw [List.getElem?_map, a2] at hbj
            simpa using hbj.symm
          subst hbb
          obtain ⟨r1, s1⟩ := rh_it r hq hp hit (s' := lapp seen [me.born]) (b' := ck)
          refine ⟨_, _, _, L, .tuple #[.bool true, me.key, me.val], _, hk, ?_, .tup _ _ (.cons _ _ _ _ (.bool _) (.cons _ _ _ _ ek (.cons _ _ _ _ ev .nil))), r1, s1⟩
          have a4 : ¬ since ≤ me.born := by omega
          have sp : seen.toArray.push me.born = (lapp seen [me.born]).toArray := by rw [lapp_eq]; simp
          have o1 : (#[me].filter fun e => decide (e.born < since)) = #[me] := by simp [a3]
          have o2 : (#[me].filter fun e => decide (e.born ≥ since)) = #[] := by simp; omega
          simp only [Instr.next, ho, Nat.zero_add, Sem.run_bind, run_getObj_it (P := P) hit, MapKept.run_getObj_map (P := P) hb, Result.andThen_ok, g0, Bool.false_eq_true, if_false, f2, o1, o2]
          have c1 : ((if (#[me] : Array MapEntry).isEmpty = true then #[none] else #[]) ++ Array.map some ((#[me] : Array MapEntry) ++ #[])) = #[some me] := by simp
          rw [c1, ← sp]
          simp [Question.forced, run_setObj_it (P := P) _ hit]
end
end
end Go.X
/- One operation of the abstract machine, whichever; what it is that a frame stands for. -/
set_option autoImplicit false
namespace Go.X
noncomputable section

def xnil (x : AV) (h : H) (ds : List Bool) (K : KV) : Prop := match x with
  | .ptr i o => K (.ptr i o) h ds
  | .map i => K (.map i) h ds
  | .fn (.func f) a b => K (.fn (.func f) a b) h ds
  | .ifc t v => K (.ifc t v) h ds
  | _ => False
def xext (t : AV) (i : Nat) (h : H) (ds : List Bool) (K : KV) : Prop := match t with
  | .tup vs => match lget vs i with
    | some v => K v h ds
    | none => False
  | _ => False
def xpick (c a b : AV) (h : H) (ds : List Bool) (K : KV) : Prop := match c with
  | .bool t => K (Bool.rec b a t) h ds
  | _ => False
def xblt (m : Bool) (P : Program) (ρ : Operand → AV) (b : Builtin) (ts : List TypeId) (args : List Operand) (h : H) (ds : List Bool) (K : KV) : Prop :=
  match b with
  | .len => match ts with
    | [t] => match args with
      | [x] => xlen P t (ρ x) h ds K
      | _ => False
    | _ => False
  | .append => match ts with
    | [t, tx] => match args with
      | [s, x] => xapp m P t tx (ρ s) (ρ x) h ds K
      | _ => False
    | _ => False
  | .delete => match ts with
    | [t, _] => match args with
      | [x, k] => xmapd P t (ρ x) (ρ k) h ds K
      | _ => False
    | _ => False
  | .max => match args with
    | [x, y] => xmx m true (ρ x) (ρ y) h ds K
    | _ => False
  | .min => match args with
    | [x, y] => xmx m false (ρ x) (ρ y) h ds K
    | _ => False
  | _ => False
def omap (ρ : Operand → AV) (x : Option Operand) : Option AV := match x with
  | some y => some (ρ y)
  | none => none
def xop (m : Bool) (P : Program) (ρ : Operand → AV) (op : Op) (h : H) (ds : List Bool) (K : KV) : Prop :=
  match op with
  | .move x => K (ρ x) h ds
  | .assign x => K (ρ x) h ds
  | .pick c a b => xpick (ρ c) (ρ a) (ρ b) h ds K
  | .alloc e => xalloc P e h ds K
  | .box e x => xbox e (ρ x) h ds K
  | .build t ps => xbuild P t (lmap (fun p => (p.1, ρ p.2)) ps.toList) h ds K
  | .buildSlice t n ps => xbslice m P t n (lmap (fun p => (p.1, ρ p.2)) ps.toList) h ds K
  | .load t a => xload m P t (ρ a) h ds K
  | .store t a x => xstore m P t (ρ a) (ρ x) h ds K
  | .nilCheck x => xnil (ρ x) h ds K
  | .binOp op t x y _ => xbin m P op t (ρ x) (ρ y) h ds K
  | .unOp op _ x => xun m op (ρ x) h ds K
  | .convert s t x => Bool.rec (Bool.rec (xconv m P s t (ρ x) h ds K) (xstrb P s t (ρ x) h ds K) (isSlcT P s)) (xbytes P s t (ρ x) h ds K) (isSlcT P t)
  | .makeInterface t x => Bool.rec False (K (.ifc t (ρ x)) h ds) (P.concrete t)
  | .makeFunc fn f c => K (.fn fn (lmap ρ f.toList) (lmap ρ c.toList)) h ds
  | .makeSlice t l c => xmake m P t (ρ l) (ρ c) h ds K
  | .slice t x lo hi mx => xslice m P t (ρ x) (omap ρ lo) (omap ρ hi) (omap ρ mx) h ds K
  | .fieldAddr t x f => xfaddr P t (ρ x) f h ds K
  | .field t x f => xfield m P t (ρ x) f h ds K
  | .indexAddr t x i => xiaddr m P t (ρ x) (ρ i) h ds K
  | .index t x i => xindex m P t (ρ x) (ρ i) h ds K
  | .extract t i => xext (ρ t) i h ds K
  | .makeMap t r => xmkmap P t (omap ρ r) h ds K
  | .mapUpdate t x k v => xmapu P t (ρ x) (ρ k) (ρ v) h ds K
  | .insert t x k v => xmapu P t (ρ x) (ρ k) (ρ v) h ds K
  | .mapEntry t x k => xmme P t (ρ x) (ρ k) h ds K
  | .entryStore _ x s v => xmes (ρ x) (ρ s) (ρ v) h ds K
  | .typeAssert x _ t ok => xtas P (ρ x) t ok h ds K
  | .lookup t x k ok => xlookI P t (ρ x) (ρ k) ok h ds K
  | .range t x => xrng P t (ρ x) h ds K
  | .next x s => xnxt (ρ x) s h ds K
  | .entry x => xent (ρ x) h ds K
  | .call c => match c.callee with
    | .builtin b => xblt m P ρ b c.argTypes.toList c.args.toList h ds K
    | _ => False
  | _ => False

def Outs (r : Result Next) (v : Value) (w : World) : Prop := r = .ok (.value v) w ∨ (r = .ok .skip w ∧ v = undef)
def OpOK (P : Program) (s : Sem Next) (L : LM) (h : H) (w : World) (U : Nat) (K : KV) : Prop :=
  ∃ v h' ds' L' v' w', K v h' ds' ∧ Outs (s.run P w) v' w' ∧ RV L' v v' ∧ RH L' h' w' U ∧ Step L L' h h' w w'
section
variable {P : Program} {L : LM} {h : H} {w : World} {U : Nat} {m : Bool} {ds : List Bool} {K : KV}
theorem OpOK.val {s : Sem Value} (hs : SemOK P s L h w U K) : OpOK P (do pure (.value (← s))) L h w U K := by
  obtain ⟨v, h', ds', L', v', w', a, b, c⟩ := hs
  exact ⟨v, h', ds', L', v', w', a, .inl (by simp [b]), c⟩
theorem OpOK.here (r : RH L h w U) {v : AV} {v' : Value} {ds' : List Bool} (hk : K v h ds') (hv : RV L v v') : OpOK P (pure (.value v')) L h w U K :=
  ⟨v, h, ds', L, v', w, hk, .inl rfl, hv, r, Step.refl L h w⟩
theorem rps_map {ρ : Operand → AV} {ρ' : Operand → Value} (hρ : ∀ x, RV L (ρ x) (ρ' x)) : ∀ (ps : List (Nat × Operand)), RPs L (ps.map fun p => (p.1, ρ p.2)) (ps.map fun p => (p.1, ρ' p.2))
  | [] => ⟨rfl, .nil⟩
  | p :: ps => by
    obtain ⟨a, b⟩ := rps_map hρ ps
    exact ⟨by simp, .cons _ _ _ _ (hρ _) b⟩
theorem rvs_map {ρ : Operand → AV} {ρ' : Operand → Value} (hρ : ∀ x, RV L (ρ x) (ρ' x)) : ∀ (xs : List Operand), RVs L (xs.map ρ) (xs.map ρ')
  | [] => .nil
  | x :: xs => .cons _ _ _ _ (hρ x) (rvs_map hρ xs)
theorem ro_map {ρ : Operand → AV} {ρ' : Operand → Value} (hρ : ∀ x, RV L (ρ x) (ρ' x)) (x : Option Operand) : RO L (omap ρ x) (x.map ρ') := by
  cases x with
  | none => exact .none
  | some x => exact .some _ _ (hρ x)
theorem sliceAt_eq {t : TypeId} {x : AV} {x' : Value} {lo hi mx : Option AV} {lo' hi' mx' : Option Value} (hk : xslice m P t x lo hi mx h ds K) :
    (Instr.sliceAt t x' lo' hi' mx').run P w = (Instr.slice t x' lo' hi' mx').run P w := by
  unfold xslice at hk
  split at hk <;> try exact hk.elim
  · rename_i hu; simp [Instr.sliceAt, run_underlying hu]
  · rename_i e hu; simp [Instr.sliceAt, run_underlying hu]
theorem SemOK.of_eq {s s' : Sem Value} (e : s'.run P w = s.run P w) (hs : SemOK P s L h w U K) : SemOK P s' L h w U K := by
  obtain ⟨v, h', ds', L', v', w', a, b, c⟩ := hs
  exact ⟨v, h', ds', L', v', w', a, e.trans b, c⟩
set_option maxHeartbeats 4000000 in
theorem xop_sound (r : RH L h w U) (hU : ∀ v h' ds', K v h' ds' → h'.next ≤ U) {ρ : Operand → AV} {ρ' : Operand → Value} (hρ : ∀ x, RV L (ρ x) (ρ' x)) (o : Oper) (hk : xop m P ρ o.op h ds K) :
    OpOK P (execOp ρ' o) L h w U K := by
  obtain ⟨dst, op, type, pos, after, guard⟩ := o
  cases op <;> simp only [xop] at hk <;> try exact hk.elim
  case move x => exact .here r hk (hρ x)
  case assign x => exact .here r hk (hρ x)
  case pick c a b =>
    unfold xpick at hk
    split at hk <;> try exact hk.elim
    rename_i t hc
    have hcv := hρ c
    rw [hc] at hcv
    generalize hcc : ρ' c = c' at hcv
    cases hcv
    refine ⟨_, h, ds, L, if t then ρ' a else ρ' b, w, hk, .inl ?_, ?_, r, Step.refl L h w⟩
    · simp only [execOp, hcc, asBool]; cases t <;> rfl
    · cases t <;> exact hρ _
  case alloc e => exact .val (s := Instr.alloc e true (.tuple #[])) (xalloc_sound r hU hk)
  case box e x => exact .val (s := Instr.box e (ρ' x)) (xbox_sound r hU (hρ x) hk)
  case build t ps =>
    rw [lmap_eq] at hk
    simp only [execOp]
    refine .val (xbuild_sound r ?_ hk)
    simpa using rps_map hρ ps.toList
  case buildSlice t n ps =>
    rw [lmap_eq] at hk
    simp only [execOp]
    refine .val (xbslice_sound r hU ?_ hk)
    simpa using rps_map hρ ps.toList
  case load t a => exact .val (s := Instr.loadAt t (ρ' a)) (xload_sound r (hρ a) hk)
  case store t a x =>
    obtain ⟨h', w', a1, a2, a3, a4⟩ := xstore_sound r (hρ a) (hρ x) hk
    exact ⟨_, h', ds, L, undef, w', a1, .inr ⟨by simp [execOp, a2], rfl⟩, .tup [] #[] .nil, a3, a4⟩
  case nilCheck x =>
    unfold xnil at hk
    have hx := hρ x
    split at hk <;> try exact hk.elim
    all_goals
      rename_i heq
      rw [heq] at hx
      generalize hcc : ρ' x = c' at hx
      cases hx
      refine ⟨_, h, ds, L, ρ' x, w, hk, .inl (by simp only [execOp, hcc]; rfl), ?_, r, Step.refl L h w⟩
      rw [hcc]; constructor <;> assumption
  case binOp op t x y yt => exact .val (s := do eqGuard op t x y (ρ' x) (ρ' y); binOp op t (ρ' x) (ρ' y)) (xbin_sound r (hρ x) (hρ y) x y hk)
  case unOp op t x => exact .val (s := Op.unary op (ρ' x)) (xun_sound r (hρ x) hk)
  case convert s t x =>
    cases hb : isSlcT P t with
    | false =>
      rw [hb] at hk
      cases hb2 : isSlcT P s with
      | false => rw [hb2] at hk; exact .val (s := convert s t (ρ' x)) (xconv_sound r (hρ x) hk)
      | true => rw [hb2] at hk; exact .val (s := convert s t (ρ' x)) (xstrb_sound r (hρ x) hk)
    | true => rw [hb] at hk; exact .val (s := convert s t (ρ' x)) (xbytes_sound r hU (hρ x) hk)
  case makeInterface t x =>
    cases hc : P.concrete t with
    | false => rw [hc] at hk; exact hk.elim
    | true =>
      rw [hc] at hk
      exact .val (s := Instr.makeInterface t (ρ' x)) (.same r hk (run_makeInterface w t _ hc) (.ifc _ _ _ (hρ x)))
  case makeFunc fn f c =>
    rw [lmap_eq, lmap_eq] at hk
    exact .val (s := Instr.makeFunc fn (f.map ρ') (c.map ρ')) (.same r hk (v' := .func fn (f.map ρ') (c.map ρ')) rfl (.fn _ _ _ _ _ (by simpa using rvs_map hρ f.toList) (by simpa using rvs_map hρ c.toList)))
  case mapUpdate t x k v =>
    obtain ⟨h', w', a1, a2, a3, a4⟩ := xmapu_sound r (hρ x) (hρ k) (hρ v) hk
    exact ⟨_, h', ds, L, undef, w', a1, .inr ⟨by simp [execOp, a2], rfl⟩, .tup [] #[] .nil, a3, a4⟩
  case insert t x k v =>
    obtain ⟨h', w', a1, a2, a3, a4⟩ := xmapu_sound r (hρ x) (hρ k) (hρ v) hk
    exact ⟨_, h', ds, L, undef, w', a1, .inr ⟨by simp [execOp, a2], rfl⟩, .tup [] #[] .nil, a3, a4⟩
  case mapEntry t x k => exact .val (s := Instr.mapEntry t (ρ' x) (ρ' k)) (xmme_sound r (hρ x) (hρ k) hk)
  case entryStore t x s v =>
    obtain ⟨h', w', a1, a2, a3, a4⟩ := xmes_sound (P := P) (t := t) r (hρ x) (hρ s) (hρ v) hk
    exact ⟨_, h', ds, L, undef, w', a1, .inr ⟨by simp [execOp, a2], rfl⟩, .tup [] #[] .nil, a3, a4⟩
  case typeAssert x xt t ok => exact .val (s := Instr.typeAssert (ρ' x) xt t ok) (xtas_sound r (hρ x) hk)
  case range t x => exact .val (s := Instr.range t (ρ' x)) (xrng_sound r hU (hρ x) hk)
  case entry x => exact .val (s := Instr.entry (ρ' x)) (xent_sound r (hρ x) hk)
  case next x s => exact .val (s := Instr.next (ρ' x) s type) (xnxt_sound r (hρ x) hk)
  case makeMap t x => exact .val (s := Instr.makeMap t (x.map ρ')) (xmkmap_sound r hU (ro_map hρ x) hk)
  case lookup t x k ok => rw [xlookI_eq] at hk; exact .val (s := Instr.lookup t (ρ' x) (ρ' k) ok) (xlook_sound r (hρ x) (hρ k) hk)
  case makeSlice t l c => exact .val (s := Instr.makeSlice t (ρ' l) (ρ' c)) (xmake_sound r hU (hρ l) (hρ c) hk)
  case slice t x lo hi mx => exact .val (s := Instr.sliceAt t (ρ' x) (lo.map ρ') (hi.map ρ') (mx.map ρ')) (.of_eq (sliceAt_eq hk) (xslice_sound r (hρ x) (ro_map hρ lo) (ro_map hρ hi) (ro_map hρ mx) hk))
  case fieldAddr t x f => exact .val (s := Instr.fieldAt t (ρ' x) f) (xfaddr_sound r (hρ x) hk)
  case field t x f => exact .val (s := Instr.field t (ρ' x) f) (xfield_sound r (hρ x) hk)
  case indexAddr t x i => exact .val (s := Instr.indexAt t (ρ' x) (ρ' i)) (xiaddr_sound r (hρ x) (hρ i) hk)
  case index t x i => exact .val (s := Instr.index t (ρ' x) (ρ' i)) (xindex_sound r (hρ x) (hρ i) hk)
  case extract t i =>
    unfold xext at hk
    have hx := hρ t
    split at hk <;> try exact hk.elim
    rename_i vs heq
    rw [heq] at hx
    generalize hcc : ρ' t = c' at hx
    cases hx with
    | tup _ xs hxs =>
      split at hk <;> try exact hk.elim
      rename_i v hv
      rw [lget_eq] at hv
      obtain ⟨v', e1, e2⟩ := hxs.get hv
      refine .val (s := Instr.extract (ρ' t) i) (.same r hk (v' := v') ?_ e2)
      rw [hcc]; simp at e1; simp [Instr.extract, e1]
  case call c =>
    split at hk <;> try exact hk.elim
    rename_i b hb
    unfold xblt at hk
    split at hk <;> try exact hk.elim
    · split at hk <;> try exact hk.elim
      rename_i t ht
      split at hk <;> try exact hk.elim
      rename_i x hx
      have ht' : c.argTypes = #[t] := by apply Array.ext'; simpa using ht
      have hx' : c.args = #[x] := by apply Array.ext'; simpa using hx
      have h1 := OpOK.val (xlen_sound (ty := type) r (hρ x) hk)
      obtain ⟨v, h', ds', L', v', w', a, b', c'⟩ := h1
      refine ⟨v, h', ds', L', v', w', a, ?_, c'⟩
      simpa [execOp, resolve, hb, hx', ht', invoke, builtin] using b'
    · split at hk <;> try exact hk.elim
      rename_i t tx ht
      split at hk <;> try exact hk.elim
      rename_i s x hx
      have ht' : c.argTypes = #[t, tx] := by apply Array.ext'; simpa using ht
      have hx' : c.args = #[s, x] := by apply Array.ext'; simpa using hx
      have h1 := OpOK.val (xapp_sound (ty := type) r hU (hρ s) (hρ x) hk)
      obtain ⟨v, h', ds', L', v', w', a, b', c'⟩ := h1
      refine ⟨v, h', ds', L', v', w', a, ?_, c'⟩
      simpa [execOp, resolve, hb, hx', ht', invoke, builtin] using b'
    · split at hk <;> try exact hk.elim
      rename_i t tx ht
      split at hk <;> try exact hk.elim
      rename_i s x hx
      have ht' : c.argTypes = #[t, tx] := by apply Array.ext'; simpa using ht
      have hx' : c.args = #[s, x] := by apply Array.ext'; simpa using hx
      have h1 := OpOK.val (xmapd_sound (ty := type) (ts := #[t, tx]) r rfl (hρ s) (hρ x) hk)
      obtain ⟨v, h', ds', L', v', w', a, b', c'⟩ := h1
      refine ⟨v, h', ds', L', v', w', a, ?_, c'⟩
      simpa [execOp, resolve, hb, hx', ht', invoke, builtin] using b'
    all_goals
      split at hk <;> try exact hk.elim
      rename_i x y hx
      have hx' : c.args = #[x, y] := by apply Array.ext'; simpa using hx
      have h1 := OpOK.val (xmx_sound (P := P) r (hρ x) (hρ y) hk)
      obtain ⟨v, h', ds', L', v', w', a, b', c'⟩ := h1
      refine ⟨v, h', ds', L', v', w', a, ?_, c'⟩
      simpa [execOp, resolve, hb, hx', invoke, builtin, Builtin.max_, Builtin.min_] using b'
end
end
end Go.X
/- An operation's run in continuations is one outcome and what is done with it. -/
set_option autoImplicit false
set_option linter.unusedVariables false
namespace Go.X
noncomputable section

/-- one outcome, the heap as it was, whatever the heap -/
def SplQ (F : H → KV → Prop) : Prop := ∀ h K, F h K → ∃ v ds', K v h ds' ∧ ∀ h' K', K' v h' ds' → F h' K'
/-- one outcome, the heap as it was -/
def SplL (h : H) (F : KV → Prop) : Prop := ∀ K, F K → ∃ v ds', K v h ds' ∧ ∀ K', K' v h ds' → F K'
/-- one outcome: a new block, whatever the heap -/
def Names (mv : Nat → AV) : Prop := ∀ (L : LM) (n : Nat) (v : Value), RV L (mv n) v → ∃ p, L n = some p
def SplA (F : H → KV → Prop) : Prop := ∀ h K, F h K → ∃ (k : Blk) (mv : Nat → AV) (ds' : List Bool), Names mv ∧ K (mv h.next) (hnew h k) ds' ∧ ∀ h' K', K' (mv h'.next) (hnew h' k) ds' → F h' K'
/-- one outcome -/
def Spl (h : H) (F : KV → Prop) : Prop := ∀ K, F K → ∃ v h' ds', K v h' ds' ∧ h.next ≤ h'.next ∧ ∀ K', K' v h' ds' → F K'

theorem SplQ.l {F : H → KV → Prop} (s : SplQ F) (h : H) : SplL h (F h) := fun K hk => let ⟨v, ds', a, b⟩ := s h K hk; ⟨v, ds', a, b h⟩
theorem SplL.s {h : H} {F : KV → Prop} (s : SplL h F) : Spl h F := fun K hk => let ⟨v, ds', a, b⟩ := s K hk; ⟨v, h, ds', a, Nat.le_refl _, b⟩
theorem SplA.s {F : H → KV → Prop} (s : SplA F) (h : H) : Spl h (F h) := fun K hk => let ⟨_, _, ds', _, a, b⟩ := s h K hk; ⟨_, _, ds', a, Nat.le_succ _, b h⟩

theorem chk_mk {m b : Bool} {K : Prop} (h : b = true) (hk : K) : chk m b K := by
  subst h; exact hk
theorem chk_split {m b : Bool} {K : Prop} (h : chk m b K) : K ∧ ∀ K' : Prop, K' → chk m b K' := ⟨(chk_of h).2, fun _ hk => chk_mk (chk_of h).1 hk⟩
section
variable {P : Program} {m : Bool} {ds : List Bool}
theorem q_here (v : AV) : SplQ (fun h K => K v h ds) := fun h K hk => ⟨v, ds, hk, fun _ _ h => h⟩
theorem q_false : SplQ (fun _ _ => False) := fun _ _ hk => hk.elim
theorem q_chk {b : Bool} {F : H → KV → Prop} (s : SplQ F) : SplQ (fun h K => chk m b (F h K)) := fun h K hk =>
  let ⟨a, b⟩ := chk_split hk
  let ⟨v, ds', c, d⟩ := s h K a
  ⟨v, ds', c, fun h' K' hk' => b _ (d h' K' hk')⟩
theorem q_dcd {b : Bool} {F : Bool → List Bool → H → KV → Prop} (s : ∀ ds, SplQ (F b ds)) : SplQ (fun h K => dcd m b ds fun b ds => F b ds h K) := fun h K hk =>
  let ⟨ds1, a, c⟩ := dcd_split hk
  let ⟨v, ds', e, d⟩ := s ds1 h K a
  ⟨v, ds', e, fun h' K' hk' => c _ (d h' K' hk')⟩
theorem q_ari {k : IntKind} {n : Int} : SplQ (fun h K => ari m k n ds fun v ds => K v h ds) := fun h K hk =>
  let ⟨ds1, a, c⟩ := ari_split hk
  ⟨_, ds1, a, fun h' K' hk' => c _ hk'⟩
theorem q_bool {b : Bool} {F G : H → KV → Prop} (s : SplQ F) (t : SplQ G) : SplQ (fun h K => Bool.rec (F h K) (G h K) b) := by
  cases b with
  | true => exact t
  | false => exact s
theorem q_bits {op : BinOp} {k : IntKind} {a b : Int} : SplQ (fun h K => xbits m op k a b ds fun v ds => K v h ds) := by
  unfold xbits; simp only [arix_eq, xand_eq]; cases op <;> first | exact q_ari | exact q_false
theorem q_int {op : BinOp} {k : IntKind} {a b : Int} : SplQ (fun h K => xint m op k a b ds fun v ds => K v h ds) := by
  unfold xint; cases op <;> first
    | exact q_ari
    | exact q_chk q_ari
    | exact q_chk (q_here _)
    | exact q_dcd fun _ => q_here _
    | exact q_bits
theorem q_shift {op : BinOp} {k : IntKind} {a b : Int} : SplQ (fun h K => xshift m op k a b ds fun v ds => K v h ds) := by
  unfold xshift; cases op <;> first
    | exact q_chk q_ari
    | exact q_chk (q_here _)
    | exact q_chk q_false
theorem q_str {op : BinOp} {n v n' v' : Nat} : SplQ (fun h K => xstr m op n v n' v' ds fun v ds => K v h ds) := by
  unfold xstr; cases op <;> first
    | exact q_chk (q_here _)
    | exact q_dcd fun _ => q_here _
    | exact q_false
theorem q_eqK {op : BinOp} {t : TypeId} {x y : AV} : SplQ (fun h K => xeqK m P op t x y h ds K) := by
  unfold xeqK
  cases xeqT P 20 t x y with
  | none => exact q_false
  | some b => cases op <;> first
    | exact q_dcd fun _ => q_here _
    | exact q_false
theorem q_cls {op : BinOp} {t : TypeId} {x y : AV} : SplQ (fun h K => (Bool.rec False (xeqK m P op t x y h ds K) (cls x) : Prop)) := q_bool q_false q_eqK
theorem q_bin {op : BinOp} {t : TypeId} {x y : AV} : SplQ (fun h K => xbin m P op t x y h ds K) := by
  unfold xbin
  cases x
  case any => exact q_cls (P := P) (m := m) (ds := ds) (op := op) (t := t) (y := y) (x := .any)
  case bool b => exact q_cls (P := P) (m := m) (ds := ds) (op := op) (t := t) (y := y) (x := .bool b)
  case flt k b => exact q_cls (P := P) (m := m) (ds := ds) (op := op) (t := t) (y := y) (x := .flt k b)
  case nilp => exact q_cls (P := P) (m := m) (ds := ds) (op := op) (t := t) (y := y) (x := .nilp)
  case ptr i o => exact q_cls (P := P) (m := m) (ds := ds) (op := op) (t := t) (y := y) (x := .ptr i o)
  case nils => exact q_cls (P := P) (m := m) (ds := ds) (op := op) (t := t) (y := y) (x := .nils)
  case slc i o l c e s => exact q_cls (P := P) (m := m) (ds := ds) (op := op) (t := t) (y := y) (x := .slc i o l c e s)
  case emp => exact q_cls (P := P) (m := m) (ds := ds) (op := op) (t := t) (y := y) (x := .emp)
  case nilm => exact q_cls (P := P) (m := m) (ds := ds) (op := op) (t := t) (y := y) (x := .nilm)
  case map i => exact q_cls (P := P) (m := m) (ds := ds) (op := op) (t := t) (y := y) (x := .map i)
  case fn f a b => exact q_cls (P := P) (m := m) (ds := ds) (op := op) (t := t) (y := y) (x := .fn f a b)
  case nilf => exact q_cls (P := P) (m := m) (ds := ds) (op := op) (t := t) (y := y) (x := .nilf)
  case ifc u v => exact q_cls (P := P) (m := m) (ds := ds) (op := op) (t := t) (y := y) (x := .ifc u v)
  case tup vs => exact q_cls (P := P) (m := m) (ds := ds) (op := op) (t := t) (y := y) (x := .tup vs)
  case yld i => exact q_cls (P := P) (m := m) (ds := ds) (op := op) (t := t) (y := y) (x := .yld i)
  case vs i o n g => exact q_cls (P := P) (m := m) (ds := ds) (op := op) (t := t) (y := y) (x := .vs i o n g)
  case vp i o g => exact q_cls (P := P) (m := m) (ds := ds) (op := op) (t := t) (y := y) (x := .vp i o g)
  case int k a => cases y <;> first | exact q_bool (q_bool q_false q_int) q_shift | exact q_false
  case str n v => cases y <;> first | exact q_str | exact q_false
  case agg cs => cases y <;> first | exact q_bool q_eqK q_false | exact q_false
  case nili => cases y <;> first | exact q_eqK | exact q_false
theorem q_part {t : TypeId} {cs : List AV} {off : Nat} : SplQ (fun h K => xpart m P t cs off fun v => K v h ds) := by
  unfold xpart
  cases shapeT P t with
  | none => exact q_false
  | some s => cases s with
    | none => cases lget cs off <;> first | exact q_here _ | exact q_false
    | some n => exact q_chk (q_here _)
theorem q_field {t : TypeId} {x : AV} {f : Nat} : SplQ (fun h K => xfield m P t x f h ds K) := by
  unfold xfield
  cases x <;> try exact q_false
  cases fieldT P t f <;> first | exact q_part | exact q_false
theorem q_faddr {t : TypeId} {x : AV} {f : Nat} : SplQ (fun h K => xfaddr P t x f h ds K) := by
  unfold xfaddr
  cases x <;> try exact q_false
  cases fieldT P t f with
  | none => exact q_false
  | some fd => dsimp only; cases sizeT P fd.type <;> first | exact q_bool (q_here _) q_false | exact q_false
theorem q_build {t : TypeId} {parts : List (Nat × AV)} : SplQ (fun h K => xbuild P t parts h ds K) := by
  unfold xbuild
  cases zcells P t with
  | none => exact q_false
  | some zs => cases placeOf P t with
    | none => exact q_false
    | some pl => dsimp only; cases xfill pl zs parts <;> first | exact q_here _ | exact q_false
theorem q_iaddr {t : TypeId} {x ix : AV} : SplQ (fun h K => xiaddr m P t x ix h ds K) := by
  unfold xiaddr
  cases ix <;> try exact q_false
  dsimp only
  split <;> try exact q_false
  · cases x <;> try exact q_false
    · dsimp only; split <;> first | exact q_chk (q_here _) | exact q_false
    · dsimp only; split <;> first | exact q_chk (q_here _) | exact q_false
  · cases x <;> try exact q_false
    dsimp only; split <;> first | exact q_chk (q_here _) | exact q_false
theorem q_index {t : TypeId} {x ix : AV} : SplQ (fun h K => xindex m P t x ix h ds K) := by
  unfold xindex
  cases ix <;> try exact q_false
  cases P.underlying t with
  | none => exact q_false
  | some d => cases d <;> try exact q_false
              case string => cases x <;> first | exact q_chk (q_here _) | exact q_false
              case array n e =>
                cases x <;> try exact q_false
                dsimp only
                cases sizeT P e <;> first | exact q_chk q_part | exact q_false
theorem q_bnd {x : Option AV} {d : Nat} {F : Nat → H → KV → Prop} (s : ∀ n, SplQ (F n)) : SplQ (fun h K => bnd x d fun n => F n h K) := by
  unfold bnd
  cases x with
  | none => exact s d
  | some a => cases a <;> try exact q_false
              case int k n => cases n <;> first | exact s _ | exact q_false
theorem q_slice {t : TypeId} {x : AV} {lo hi mx : Option AV} : SplQ (fun h K => xslice m P t x lo hi mx h ds K) := by
  unfold xslice
  cases P.underlying t with
  | none => exact q_false
  | some d =>
    cases d <;> try exact q_false
    case string =>
      cases x <;> try exact q_false
      cases mx <;> first | exact q_bnd fun _ => q_bnd fun _ => q_chk (q_here _) | exact q_false
    case slice e =>
      dsimp only
      cases sizeT P e with
      | none => exact q_false
      | some z =>
        cases x <;> try exact q_false
        case slc =>
          cases mx with
          | none => exact q_bnd fun _ => q_bnd fun _ => q_chk (q_dcd fun _ => q_bool (q_bool (q_here _) (q_here _)) (q_here _))
          | some mv =>
            cases hi with
            | none => exact q_false
            | some hv => exact q_bnd fun _ => q_bnd fun _ => q_bnd fun _ => q_chk (q_dcd fun _ => q_bool (q_here _) (q_here _))
        case nils =>
          cases mx with
          | none => exact q_bnd fun _ => q_bnd fun _ => q_chk (q_here _)
          | some mv =>
            cases hi with
            | none => exact q_false
            | some hv => exact q_bnd fun _ => q_bnd fun _ => q_bnd fun _ => q_chk (q_here _)
        case emp => cases mx <;> first | exact q_bnd fun _ => q_bnd fun _ => q_chk (q_here _) | exact q_false
theorem q_conv {s t : TypeId} {x : AV} : SplQ (fun h K => xconv m P s t x h ds K) := by
  unfold xconv
  cases P.underlying s with
  | none => exact q_false
  | some d =>
    cases P.underlying t with
    | none => exact q_false
    | some d' =>
      cases d' <;> try exact q_false
      case int k => cases x <;> first | exact q_ari | exact q_false
      case string => cases x <;> first | exact q_here _ | exact q_false
theorem q_un {op : UnOp} {x : AV} : SplQ (fun h K => xun m op x h ds K) := by
  unfold xun
  cases op <;> try exact q_false
  case neg => cases x <;> first | exact q_ari | exact q_false
  case xor => cases x <;> first | exact q_bits | exact q_false
  case not => cases x <;> first | exact q_here _ | exact q_false
theorem q_nil {x : AV} : SplQ (fun h K => xnil x h ds K) := by
  unfold xnil
  cases x <;> first
    | exact q_here _
    | exact q_false
    | (rename_i f _ _; cases f <;> first | exact q_here _ | exact q_false)
theorem q_ext {t : AV} {i : Nat} : SplQ (fun h K => xext t i h ds K) := by
  unfold xext
  cases t <;> try exact q_false
  rename_i vs
  dsimp only
  cases lget vs i <;> first | exact q_here _ | exact q_false
theorem q_pick {c a b : AV} : SplQ (fun h K => xpick c a b h ds K) := by
  unfold xpick
  cases c <;> first | exact q_here _ | exact q_false

/-- does an operation compute only? -/
def isQ (P : Program) (op : Op) : Bool := match op with
  | .move _ => true
  | .assign _ => true
  | .pick _ _ _ => true
  | .build _ _ => true
  | .nilCheck _ => true
  | .binOp _ _ _ _ _ => true
  | .unOp _ _ _ => true
  | .convert s t _ => Bool.and (Bool.not (isSlcT P t)) (Bool.not (isSlcT P s))
  | .makeInterface _ _ => true
  | .makeFunc _ _ _ => true
  | .slice _ _ _ _ _ => true
  | .fieldAddr _ _ _ => true
  | .field _ _ _ => true
  | .indexAddr _ _ _ => true
  | .index _ _ _ => true
  | .extract _ _ => true
  | .call c => match c.callee with
    | .builtin .max => true
    | .builtin .min => true
    | .builtin .len => match c.argTypes.toList with
      | [t] => match P.underlying t with
        | some (.map _ _) => false
        | _ => true
      | _ => false
    | _ => false
  | _ => false
theorem q_len {t : TypeId} {x : AV} (hm : (match P.underlying t with | some (.map _ _) => false | _ => true) = true) : SplQ (fun h K => xlen P t x h ds K) := by
  unfold xlen
  cases hu : P.underlying t with
  | none => exact q_false
  | some d =>
    rw [hu] at hm
    cases d <;> try exact q_false
    case string => cases x <;> first | exact q_here _ | exact q_false
    case slice e => cases x <;> first | exact q_here _ | exact q_false
    case array n e => exact q_here _
    case map k e => cases hm
theorem q_mx {gt : Bool} {x y : AV} : SplQ (fun h K => xmx m gt x y h ds K) := by
  unfold xmx
  cases x <;> try exact q_false
  cases y <;> try exact q_false
  exact q_dcd fun _ => q_here _
theorem xop_q {op : Op} (hq : isQ P op = true) (ρ : Operand → AV) : SplQ (fun h K => xop m P ρ op h ds K) := by
  cases op <;> first | (cases hq; done) | skip
  case move => exact q_here _
  case assign => exact q_here _
  case pick => exact q_pick
  case build => exact q_build
  case nilCheck => exact q_nil
  case binOp => exact q_bin
  case unOp => exact q_un
  case convert s t x =>
    have hq : Bool.and (Bool.not (isSlcT P t)) (Bool.not (isSlcT P s)) = true := hq
    cases hb : isSlcT P t with
    | true => rw [hb] at hq; cases hq
    | false =>
      cases hb2 : isSlcT P s with
      | true => rw [hb, hb2] at hq; cases hq
      | false =>
        show SplQ (fun h K => (Bool.rec (Bool.rec (xconv m P s t (ρ x) h ds K) (xstrb P s t (ρ x) h ds K) (isSlcT P s)) (xbytes P s t (ρ x) h ds K) (isSlcT P t) : Prop))
        rw [hb, hb2]; exact q_conv
  case makeInterface => exact q_bool q_false (q_here _)
  case makeFunc => exact q_here _
  case slice => exact q_slice
  case fieldAddr => exact q_faddr
  case field => exact q_field
  case indexAddr => exact q_iaddr
  case index => exact q_index
  case extract => exact q_ext
  case call c =>
    obtain ⟨callee, args, ts⟩ := c
    cases callee <;> first | (cases hq; done) | skip
    rename_i b
    cases b <;> first | (cases hq; done) | skip
    case max =>
      show SplQ (fun h K => xblt m P ρ .max ts.toList args.toList h ds K)
      unfold xblt
      generalize args.toList = al
      match al with
      | [x, y] => exact q_mx
      | [] => exact q_false
      | [_] => exact q_false
      | _ :: _ :: _ :: _ => exact q_false
    case min =>
      show SplQ (fun h K => xblt m P ρ .min ts.toList args.toList h ds K)
      unfold xblt
      generalize args.toList = al
      match al with
      | [x, y] => exact q_mx
      | [] => exact q_false
      | [_] => exact q_false
      | _ :: _ :: _ :: _ => exact q_false
    show SplQ (fun h K => xblt m P ρ .len ts.toList args.toList h ds K)
    unfold xblt
    have hq : (match ts.toList with
      | [t] => match P.underlying t with
        | some (.map _ _) => false
        | _ => true
      | _ => false) = true := hq
    generalize ts.toList = tl at hq
    generalize args.toList = al
    match tl, al, hq with
    | [t], [x], hq => exact q_len hq
    | [t], [], _ => exact q_false
    | [t], _ :: _ :: _, _ => exact q_false
    | [], _, hq => cases hq
    | _ :: _ :: _, _, hq => cases hq

/-! looks into memory -/
def isL (op : Op) : Bool := match op with
  | .load _ _ => true
  | .lookup _ _ _ _ => true
  | _ => false
theorem l_here {h : H} (v : AV) : SplL h (fun K => K v h ds) := fun _ hk => ⟨v, ds, hk, fun _ h => h⟩
theorem l_false {h : H} : SplL h (fun _ => False) := fun _ hk => hk.elim
theorem l_chk {h : H} {b : Bool} {F : KV → Prop} (s : SplL h F) : SplL h (fun K => chk m b (F K)) := fun K hk =>
  let ⟨a, b⟩ := chk_split hk
  let ⟨v, ds', c, d⟩ := s K a
  ⟨v, ds', c, fun K' hk' => b _ (d K' hk')⟩
theorem l_dcd {h : H} {b : Bool} : SplL h (fun K => dcd m b ds fun b ds => K (.bool b) h ds) := fun K hk =>
  let ⟨ds', a, c⟩ := dcd_split hk
  ⟨_, ds', a, fun K' hk' => c _ hk'⟩
theorem l_load {h : H} {t : TypeId} {x : AV} : SplL h (fun K => xload m P t x h ds K) := by
  unfold xload
  cases x <;> try exact l_false
  case vp =>
    dsimp only
    cases shapeT P t with
    | none => exact l_false
    | some s => cases s with
      | none => exact fun K hk => ⟨_, ds, hk.2, fun K' hk' => ⟨hk.1, hk'⟩⟩
      | some n => exact l_false
  rename_i i o
  dsimp only
  cases h.b.get i with
  | none => exact l_false
  | some k =>
    cases k <;> try exact l_false
    case row cells e wr ps =>
      dsimp only
      cases shapeT P t with
      | none => exact l_false
      | some s => cases s with
        | none => dsimp only; cases lget cells o <;> first | exact l_here _ | exact l_false
        | some n => exact l_chk (l_here _)
    case bts n v e =>
      dsimp only
      cases shapeT P t with
      | none => exact l_false
      | some s => cases s with
        | none => exact l_chk (l_here _)
        | some n => exact l_false
    case pur f n e =>
      dsimp only
      cases shapeT P t with
      | none => exact l_false
      | some s => cases s with
        | none =>
          dsimp only
          split <;> first | exact l_chk (l_here _) | exact l_chk l_dcd | exact l_false
        | some n => exact l_chk (l_here _)
theorem l_look {h : H} {t : TypeId} {x k : AV} {ok : Bool} : SplL h (fun K => xlook P t x k ok h ds K) := by
  unfold xlook
  cases P.underlying t with
  | none => exact l_false
  | some d =>
    cases d <;> try exact l_false
    rename_i kt et
    dsimp only
    cases P.underlying kt with
    | none => exact l_false
    | some d =>
      dsimp only
      cases keyOKT P d k with
      | false => exact l_false
      | true =>
        cases x <;> try exact l_false
        · dsimp only; cases zval P et <;> first | exact l_here _ | exact l_false
        · rename_i i
          dsimp only
          cases h.b.get i with
          | none => exact l_false
          | some b =>
            cases b <;> try exact l_false
            rename_i bs ck es
            dsimp only
            cases xfindT P kt d k es 0 with
            | none => exact l_false
            | some q => cases q with
              | none => dsimp only; cases zval P et <;> first | exact l_here _ | exact l_false
              | some p => exact l_here _
/-- a look into memory: a cell's, or an entry's of a map -/
inductive LK where
  | load (t : TypeId) (a : AV)
  | look (t : TypeId) (x k : AV) (ok : Bool)
def xlk (m : Bool) (P : Program) (l : LK) (h : H) (ds : List Bool) (K : KV) : Prop := match l with
  | .load t a => xload m P t a h ds K
  | .look t x k ok => xlookI P t x k ok h ds K
def lkOf (ρ : Operand → AV) (op : Op) : Option LK := match op with
  | .load t a => some (.load t (ρ a))
  | .lookup t x k ok => some (.look t (ρ x) (ρ k) ok)
  | _ => none
theorem l_lk {h : H} (l : LK) : SplL h (fun K => xlk m P l h ds K) := by
  cases l with
  | load t a => exact l_load
  | look t x k ok =>
    show SplL h (fun K => xlookI P t x k ok h ds K)
    simp only [xlookI_eq]
    exact l_look
theorem lk_some {op : Op} (hq : isL op = true) (ρ : Operand → AV) : ∃ l, lkOf ρ op = some l := by
  cases op <;> first | (cases hq; done) | exact ⟨_, rfl⟩
theorem xop_lk {op : Op} {ρ : Operand → AV} {l : LK} (hl : lkOf ρ op = some l) (h : H) (K : KV) : xop m P ρ op h ds K = xlk m P l h ds K := by
  cases op <;> first | (cases hl; done) | (cases hl; rfl)
theorem l_len {h : H} {t : TypeId} {x : AV} : SplL h (fun K => xlen P t x h ds K) := by
  unfold xlen
  cases P.underlying t with
  | none => exact l_false
  | some d =>
    cases d <;> try exact l_false
    case string => cases x <;> first | exact l_here _ | exact l_false
    case slice e => cases x <;> first | exact l_here _ | exact l_false
    case array n e => exact l_here _
    case map k e =>
      cases x <;> first | exact l_here _ | exact l_false | skip
      rename_i i
      dsimp only
      cases h.b.get i with
      | none => exact l_false
      | some k => cases k <;> first | exact l_here _ | exact l_false

/-! makes a block -/
def isA (op : Op) : Bool := match op with
  | .alloc _ => true
  | .box _ _ => true
  | .buildSlice _ _ _ => true
  | .makeSlice _ _ _ => true
  | .makeMap _ _ => true
  | _ => false
theorem a_here (k : Blk) (mv : Nat → AV) (hn : Names mv) : SplA (fun h K => K (mv h.next) (hnew h k) ds) := fun h K hk => ⟨k, mv, ds, hn, hk, fun _ _ h => h⟩
theorem names_ptr : Names (fun n => .ptr n 0) := fun L n v h => by cases h; exact ⟨_, by assumption⟩
theorem names_slc (l c s : Nat) (e : Bool) : Names (fun n => .slc n 0 l c e s) := fun L n v h => by cases h; exact ⟨_, by assumption⟩
theorem a_false : SplA (fun _ _ => False) := fun _ _ hk => hk.elim
theorem a_chk {b : Bool} {F : H → KV → Prop} (s : SplA F) : SplA (fun h K => chk m b (F h K)) := fun h K hk =>
  let ⟨a, b⟩ := chk_split hk
  let ⟨k, mv, ds', nm, c, d⟩ := s h K a
  ⟨k, mv, ds', nm, c, fun h' K' hk' => b _ (d h' K' hk')⟩
theorem a_i64 {v : AV} {F : Nat → H → KV → Prop} (s : ∀ n, SplA (F n)) : SplA (fun h K => i64n v fun n => F n h K) := by
  unfold i64n
  cases v <;> try exact a_false
  rename_i k n
  cases n <;> first | exact s _ | exact a_false
theorem a_alloc {t : TypeId} : SplA (fun h K => xalloc P t h ds K) := by
  unfold xalloc
  cases zcells P t with
  | none => exact a_false
  | some zs => exact a_here (.row zs t true []) (fun n => .ptr n 0) names_ptr
theorem a_box {t : TypeId} {v : AV} : SplA (fun h K => xbox t v h ds K) := by
  unfold xbox
  cases v.cells with
  | none => exact a_false
  | some cs => exact a_here (.row cs t true []) (fun n => .ptr n 0) names_ptr
theorem a_bslice {t : TypeId} {len : Nat} {parts : List (Nat × AV)} : SplA (fun h K => xbslice m P t len parts h ds K) := by
  unfold xbslice
  cases elemT P t with
  | none => exact a_false
  | some e => dsimp only; cases sizeT P e with
    | none => exact a_false
    | some sz => cases zcells P e with
      | none => exact a_false
      | some zs => dsimp only; cases xfill (fun i => some (Nat.mul i sz, sz)) (lrep len zs) parts with
        | none => exact a_false
        | some cs => exact a_chk (a_here (.row cs e true []) (fun n => .slc n 0 len len true sz) (names_slc _ _ _ _))
theorem a_make {t : TypeId} {len cap : AV} : SplA (fun h K => xmake m P t len cap h ds K) := by
  unfold xmake
  cases elemT P t with
  | none => exact a_false
  | some e => dsimp only; cases sizeT P e with
    | none => exact a_false
    | some sz => cases zcells P e with
      | none => exact a_false
      | some zs => cases bytesT P e with
        | none => exact a_false
        | some by_ => exact a_i64 fun l => a_i64 fun c => a_chk (a_here (.row (lrep c zs) e true []) (fun n => .slc n 0 l c true sz) (names_slc _ _ _ _))
theorem names_map : Names (fun n => .map n) := fun L n v h => by cases h; exact ⟨_, by assumption⟩
theorem a_mkmap {t : TypeId} {x : Option AV} : SplA (fun h K => xmkmap P t x h ds K) := by
  unfold xmkmap
  cases x with
  | none => exact a_here _ _ names_map
  | some a =>
    dsimp only
    cases P.underlying t with
    | none => exact a_false
    | some d =>
      cases d <;> try exact a_false
      cases a <;> first | exact a_here _ _ names_map | exact a_false
theorem xop_a {op : Op} (hq : isA op = true) (ρ : Operand → AV) : SplA (fun h K => xop m P ρ op h ds K) := by
  cases op <;> first | (cases hq; done) | skip
  case alloc => exact a_alloc
  case box => exact a_box
  case buildSlice => exact a_bslice
  case makeSlice => exact a_make
  case makeMap => exact a_mkmap

/-! all else -/
theorem s_here {h : H} (v : AV) (h' : H) (hl : h.next ≤ h'.next) : Spl h (fun K => K v h' ds) := fun _ hk => ⟨v, h', ds, hk, hl, fun _ h => h⟩
theorem s_false {h : H} : Spl h (fun _ => False) := fun _ hk => hk.elim
theorem s_chk {h : H} {b : Bool} {F : KV → Prop} (s : Spl h F) : Spl h (fun K => chk m b (F K)) := fun K hk =>
  let ⟨a, b⟩ := chk_split hk
  let ⟨v, h', ds', c, l, d⟩ := s K a
  ⟨v, h', ds', c, l, fun K' hk' => b _ (d K' hk')⟩
theorem s_dcd {h : H} {b : Bool} {F : Bool → List Bool → KV → Prop} (s : ∀ ds, Spl h (F b ds)) : Spl h (fun K => dcd m b ds fun b ds => F b ds K) := fun K hk =>
  let ⟨ds1, a, c⟩ := dcd_split hk
  let ⟨v, h', ds', e, l, d⟩ := s ds1 K a
  ⟨v, h', ds', e, l, fun K' hk' => c _ (d K' hk')⟩
theorem s_bool {h : H} {b : Bool} {F G : KV → Prop} (s : Spl h F) (t : Spl h G) : Spl h (fun K => Bool.rec (F K) (G K) b) := by
  cases b with
  | true => exact t
  | false => exact s
theorem s_hwr {h : H} {i o : Nat} {xs : List AV} {v : AV → H → AV} {u : AV} : Spl h (fun K => hwr m h i o xs fun h' => K u h' ds) := by
  unfold hwr
  cases h.b.get i with
  | none => exact s_false
  | some k =>
    cases k <;> try exact s_false
    rename_i cells e wr ps
    cases wr with
    | false => exact s_false
    | true => exact s_chk (s_bool s_false (s_here _ _ (Nat.le_refl _)))
theorem s_store {h : H} {t : TypeId} {x v : AV} : Spl h (fun K => xstore m P t x v h ds K) := by
  unfold xstore
  cases x <;> try exact s_false
  dsimp only
  cases v.cells with
  | none => exact s_false
  | some cs => dsimp only; cases sizeT P t with
    | none => exact s_false
    | some n => exact s_chk (s_hwr (v := fun a _ => a))
theorem s_appN {h : H} {by_ sz : Nat} {e : TypeId} {s : AV} {n : Nat} {news : List AV} : Spl h (fun K => xappN m by_ sz e s n news h ds K) := by
  unfold xappN
  simp only [happK_eq]
  cases s <;> try exact s_false
  case nils => exact s_chk (s_here _ _ (Nat.le_succ _))
  case slc i o l cap ex sz' =>
    refine s_chk (s_dcd fun ds => s_bool ?_ (s_hwr (v := fun a _ => a)))
    cases h.b.get i with
    | none => exact s_false
    | some k =>
      cases k <;> try exact s_false
      exact s_chk (s_bool (s_bool s_false (s_bool s_false (s_here _ _ (Nat.le_succ _)))) (s_here _ _ (Nat.le_succ _)))
theorem s_app {h : H} {t tx : TypeId} {s x : AV} : Spl h (fun K => xapp m P t tx s x h ds K) := by
  unfold xapp
  cases elemT P t with
  | none => exact s_false
  | some e => cases elemT P tx with
    | none => exact s_false
    | some e2 => dsimp only; cases sizeT P e with
      | none => exact s_false
      | some sz => cases zcells P e with
        | none => exact s_false
        | some zs => cases bytesT P e with
          | none => exact s_false
          | some by_ =>
            cases x <;> try exact s_false
            case nils => cases s <;> first | exact s_here _ _ (Nat.le_refl _) | exact s_false
            case emp => cases s <;> first | exact s_here _ _ (Nat.le_refl _) | exact s_false
            case slc j oj n cj exj szj =>
              refine s_dcd fun ds => s_bool ?_ ?_
              · cases h.b.get j with
                | none => exact s_false
                | some k =>
                  cases k <;> try exact s_false
                  exact s_chk s_appN
              · cases s <;> first | exact s_here _ _ (Nat.le_refl _) | exact s_false
            case vs j oj n g =>
              refine s_chk fun K hk => ?_
              obtain ⟨v, h', ds', a, b, c⟩ := s_appN K hk.2
              exact ⟨v, h', ds', a, b, fun K' hk' => ⟨hk.1, c K' hk'⟩⟩
theorem s_mapu {h : H} {t : TypeId} {x k v : AV} : Spl h (fun K => xmapu P t x k v h ds K) := by
  unfold xmapu
  cases P.underlying t with
  | none => exact s_false
  | some d =>
    cases d <;> try exact s_false
    rename_i kt et
    dsimp only
    cases P.underlying kt with
    | none => exact s_false
    | some d =>
      refine s_bool s_false ?_
      cases x <;> try exact s_false
      rename_i i
      dsimp only
      cases h.b.get i with
      | none => exact s_false
      | some b =>
        cases b <;> try exact s_false
        rename_i bs ck es
        dsimp only
        cases xfindT P kt d k es 0 with
        | none => exact s_false
        | some r => cases r with
          | none => exact s_here _ _ (Nat.le_refl _)
          | some p => exact s_here _ _ (Nat.le_refl _)
theorem s_mapd {h : H} {t : TypeId} {x k : AV} : Spl h (fun K => xmapd P t x k h ds K) := by
  unfold xmapd
  cases P.underlying t with
  | none => exact s_false
  | some d =>
    cases d <;> try exact s_false
    rename_i kt et
    dsimp only
    cases P.underlying kt with
    | none => exact s_false
    | some d =>
      refine s_bool s_false ?_
      cases x <;> try exact s_false
      · exact s_here _ _ (Nat.le_refl _)
      · rename_i i
        dsimp only
        cases h.b.get i with
        | none => exact s_false
        | some b =>
          cases b <;> try exact s_false
          rename_i bs ck es
          dsimp only
          cases xfindT P kt d k es 0 with
          | none => exact s_false
          | some r => cases r with
            | none => exact s_here _ _ (Nat.le_refl _)
            | some p => exact s_here _ _ (Nat.le_refl _)
theorem s_look {h : H} {t : TypeId} {x k : AV} {ok : Bool} : Spl h (fun K => xlook P t x k ok h ds K) := by
  unfold xlook
  cases P.underlying t with
  | none => exact s_false
  | some d =>
    cases d <;> try exact s_false
    rename_i kt et
    dsimp only
    cases P.underlying kt with
    | none => exact s_false
    | some d =>
      refine s_bool s_false ?_
      cases x <;> try exact s_false
      · dsimp only
        cases zval P et with
        | none => exact s_false
        | some z => exact s_here _ _ (Nat.le_refl _)
      · rename_i i
        dsimp only
        cases h.b.get i with
        | none => exact s_false
        | some b =>
          cases b <;> try exact s_false
          rename_i bs ck es
          dsimp only
          cases xfindT P kt d k es 0 with
          | none => exact s_false
          | some r => cases r with
            | none =>
              dsimp only
              cases zval P et with
              | none => exact s_false
              | some z => exact s_here _ _ (Nat.le_refl _)
            | some p => exact s_here _ _ (Nat.le_refl _)
theorem s_bytes {s t : TypeId} {x : AV} {h : H} : Spl h (fun K => xbytes P s t x h ds K) := by
  unfold xbytes
  split <;> try exact s_false
  split <;> try exact s_false
  split <;> try exact s_false
  exact s_bool s_false (s_here _ _ (Nat.le_succ _))
theorem s_strb {s t : TypeId} {x : AV} {h : H} : Spl h (fun K => xstrb P s t x h ds K) := by
  unfold xstrb
  split <;> try exact s_false
  split <;> try exact s_false
  split <;> try exact s_false
  split <;> try exact s_false
  exact s_bool s_false (s_here _ _ (Nat.le_refl _))
theorem s_mx {gt : Bool} {x y : AV} {h : H} : Spl h (fun K => xmx m gt x y h ds K) := by
  unfold xmx
  cases x <;> try exact s_false
  cases y <;> try exact s_false
  exact s_dcd fun ds => s_here _ _ (Nat.le_refl _)
theorem s_tas {x : AV} {t : TypeId} {ok : Bool} {h : H} : Spl h (fun K => xtas P x t ok h ds K) := by
  unfold xtas
  cases x <;> try exact s_false
  exact s_bool s_false (s_here _ _ (Nat.le_refl _))
theorem s_mes {x s v : AV} {h : H} : Spl h (fun K => xmes x s v h ds K) := by
  unfold xmes
  cases x <;> try exact s_false
  cases s <;> try exact s_false
  rename_i i kk n
  dsimp only
  cases h.b.get i with
  | none => exact s_false
  | some b =>
    cases b <;> try exact s_false
    rename_i bs ck es
    dsimp only
    cases xstamp bs n 0 with
    | none => exact s_false
    | some j =>
      dsimp only
      cases lget es j with
      | none => exact s_false
      | some e => exact s_here _ _ (Nat.le_refl _)
theorem s_mme {h : H} {t : TypeId} {x k : AV} : Spl h (fun K => xmme P t x k h ds K) := by
  unfold xmme
  cases P.underlying t with
  | none => exact s_false
  | some d =>
    cases d <;> try exact s_false
    rename_i kt et
    dsimp only
    cases P.underlying kt with
    | none => exact s_false
    | some d =>
      refine s_bool s_false ?_
      cases x <;> try exact s_false
      rename_i i
      dsimp only
      cases h.b.get i with
      | none => exact s_false
      | some b =>
        cases b <;> try exact s_false
        rename_i bs ck es
        dsimp only
        cases xfindT P kt d k es 0 with
        | none => exact s_false
        | some r => cases r with
          | none =>
            dsimp only
            cases zval P et with
            | none => exact s_false
            | some z => exact s_here _ _ (Nat.le_refl _)
          | some p =>
            dsimp only
            cases lget bs p.1 with
            | none => exact s_false
            | some b => exact s_here _ _ (Nat.le_refl _)
theorem s_rng {h : H} {t : TypeId} {x : AV} : Spl h (fun K => xrng P t x h ds K) := by
  unfold xrng
  cases P.underlying t with
  | none => exact s_false
  | some d =>
    cases d <;> try exact s_false
    cases x <;> try exact s_false
    rename_i i
    dsimp only
    cases h.b.get i with
    | none => exact s_false
    | some b => cases b <;> first | exact s_false | exact s_here _ _ (by show h.next ≤ Nat.succ h.next; omega)
theorem s_nxt {h : H} {x : AV} {s : Bool} : Spl h (fun K => xnxt x s h ds K) := by
  unfold xnxt
  cases s with
  | true => exact s_false
  | false =>
    cases x <;> try exact s_false
    rename_i r o
    cases o with
    | succ o => exact s_false
    | zero =>
      dsimp only
      cases h.b.get r with
      | none => exact s_false
      | some b =>
        cases b <;> try exact s_false
        rename_i y since seen last
        cases y <;> try exact s_false
        rename_i i
        dsimp only
        cases h.b.get i with
        | none => exact s_false
        | some b =>
          cases b <;> try exact s_false
          rename_i bs ck es
          dsimp only
          cases goneN seen last bs with
          | true => exact s_false
          | false =>
            dsimp only
            cases pickN seen since bs 0 with
            | none => exact s_false
            | some q => cases q with
              | none => exact s_here _ _ (Nat.le_refl _)
              | some j =>
                dsimp only
                cases lget es j with
                | none => exact s_false
                | some e => dsimp only; cases lget bs j with
                  | none => exact s_false
                  | some b => exact s_here _ _ (Nat.le_refl _)
theorem s_ent {h : H} {x : AV} : Spl h (fun K => xent x h ds K) := by
  unfold xent
  cases x <;> try exact s_false
  rename_i r o
  cases o with
  | succ o => exact s_false
  | zero =>
    dsimp only
    cases h.b.get r with
    | none => exact s_false
    | some b =>
      cases b <;> try exact s_false
      rename_i y since seen last
      cases y <;> try exact s_false
      rename_i i
      dsimp only
      cases lastN seen with
      | none => exact s_false
      | some s =>
        dsimp only
        cases h.b.get i with
        | none => exact s_false
        | some b =>
          cases b <;> try exact s_false
          rename_i bs ck es
          dsimp only
          cases Nat.beq ck last with
          | false => exact s_false
          | true =>
            dsimp only
            cases idxN s bs 0 with
            | none => exact s_false
            | some j =>
              dsimp only
              cases lget es j with
              | none => exact s_false
              | some e => exact s_here _ _ (Nat.le_refl _)
theorem xop_s (op : Op) (ρ : Operand → AV) (h : H) : Spl h (fun K => xop m P ρ op h ds K) := by
  cases hq : isQ P op with
  | true => exact ((xop_q hq ρ).l h).s
  | false =>
    cases ha : isA op with
    | true => exact (xop_a ha ρ).s h
    | false =>
      cases op <;> first | (cases hq; done) | (cases ha; done) | exact s_false | skip
      case load => exact l_load.s
      case convert s t x =>
        have hq : Bool.and (Bool.not (isSlcT P t)) (Bool.not (isSlcT P s)) = false := hq
        show Spl h (fun K => (Bool.rec (Bool.rec (xconv m P s t (ρ x) h ds K) (xstrb P s t (ρ x) h ds K) (isSlcT P s)) (xbytes P s t (ρ x) h ds K) (isSlcT P t) : Prop))
        cases hb : isSlcT P t with
        | true => exact s_bytes
        | false =>
          cases hb2 : isSlcT P s with
          | false => rw [hb, hb2] at hq; cases hq
          | true => exact s_strb
      case store => exact s_store
      case mapUpdate => exact s_mapu
      case insert => exact s_mapu
      case mapEntry => exact s_mme
      case entryStore => exact s_mes
      case typeAssert => exact s_tas
      case range => exact s_rng
      case next => exact s_nxt
      case entry => exact s_ent
      case lookup t x k ok =>
        show Spl h (fun K => xlookI P t (ρ x) (ρ k) ok h ds K)
        simp only [xlookI_eq]
        exact s_look
      case call c =>
        obtain ⟨callee, args, ts⟩ := c
        cases callee <;> try exact s_false
        rename_i b
        show Spl h (fun K => xblt m P ρ b ts.toList args.toList h ds K)
        unfold xblt
        cases b <;> try exact s_false
        case len =>
          match ts.toList, args.toList with
          | [t], [x] => exact l_len.s
          | [], _ => exact s_false
          | [_], [] => exact s_false
          | [_], _ :: _ :: _ => exact s_false
          | _ :: _ :: _, _ => exact s_false
        case max =>
          match args.toList with
          | [x, y] => exact s_mx
          | [] => exact s_false
          | [_] => exact s_false
          | _ :: _ :: _ :: _ => exact s_false
        case min =>
          match args.toList with
          | [x, y] => exact s_mx
          | [] => exact s_false
          | [_] => exact s_false
          | _ :: _ :: _ :: _ => exact s_false
        case append =>
          match ts.toList, args.toList with
          | [t, tx], [x, y] => exact s_app
          | [], _ => exact s_false
          | [_], _ => exact s_false
          | [_, _], [] => exact s_false
          | [_, _], [_] => exact s_false
          | [_, _], _ :: _ :: _ :: _ => exact s_false
          | _ :: _ :: _ :: _, _ => exact s_false
        case delete =>
          match ts.toList, args.toList with
          | [t, tx], [x, y] => exact s_mapd
          | [], _ => exact s_false
          | [_], _ => exact s_false
          | [_, _], [] => exact s_false
          | [_, _], [_] => exact s_false
          | [_, _], _ :: _ :: _ :: _ => exact s_false
          | _ :: _ :: _ :: _, _ => exact s_false
end
end
end Go.X

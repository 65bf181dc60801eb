/- All operations of the abstract machine. -/
import Derived.Test.YtjhbegfkeppcbaaXJ
set_option autoImplicit false
namespace Go.X
noncomputable section

def cls (x : AV) : Bool := match x with
  | .bool _ => true
  | .nilp => true
  | .ptr _ _ => true
  | .nils => true
  | .slc _ _ _ _ _ _ => true
  | .nilm => true
  | .map _ => true
  | .fn _ _ _ => true
  | .nilf => true
  | .ifc _ _ => true
  | _ => false
def vcls (x : Value) : Bool := match x with
  | .int _ _ => false
  | .float _ _ => false
  | .complex _ _ _ => false
  | .string _ => false
  | _ => true
def xeqK (m : Bool) (P : Program) (op : BinOp) (t : TypeId) (x y : AV) (h : H) (ds : List Bool) (K : KV) : Prop :=
  match xeqT P 20 t x y with
  | some b => match op with
    | .eql => dcd m b ds fun b ds => K (.bool b) h ds
    | .neq => dcd m b ds fun b ds => K (.bool (Bool.not b)) h ds
    | _ => False
  | none => False
def isSh (op : BinOp) : Bool := match op with
  | .shl => true
  | .shr => true
  | _ => false
def xbin (m : Bool) (P : Program) (op : BinOp) (t : TypeId) (x y : AV) (h : H) (ds : List Bool) (K : KV) : Prop :=
  match x with
  | .int k a => match y with
    | .int k' b => Bool.rec (Bool.rec False (xint m op k a b ds fun v ds => K v h ds) (Nat.beq (IntKind.num k) (IntKind.num k'))) (xshift m op k a b ds fun v ds => K v h ds) (isSh op)
    | _ => False
  | .str n v => match y with
    | .str n' v' => xstr m op n v n' v' ds fun v ds => K v h ds
    | _ => False
  | .agg cs => match y with
    | .agg cs' => Bool.rec (xeqK m P op t (.agg cs) (.agg cs') h ds K) False (P.eqGuardType P.depth t)
    | _ => False
  | .nili => match y with
    | .ifc u z => xeqK m P op t .nili (.ifc u z) h ds K
    | _ => False
  | x => Bool.rec False (xeqK m P op t x y h ds K) (cls x)

section
variable {P : Program} {L : LM} {h : H} {w : World} {U : Nat} {m : Bool} {ds : List Bool} {K : KV}
theorem eq_plain {t : TypeId} {x' : Value} (hx : vcls x' = true) (y' : Value) :
    binOp .eql t x' y' = (do pure (.bool (← Op.equal t x' y'))) ∧ binOp .neq t x' y' = (do pure (.bool (!(← Op.equal t x' y')))) := by
  cases x' <;> first
    | (cases hx; done)
    | (cases y' <;> exact ⟨rfl, rfl⟩)
theorem xeqK_sound (r : RH L h w U) {op : BinOp} {t : TypeId} {x y : AV} {x' y' : Value} (hx : RV L x x') (hy : RV L y y')
    (hp : vcls x' = true) (hk : xeqK m P op t x y h ds K) :
    SemOK P (binOp op t x' y') L h w U K := by
  unfold xeqK at hk
  split at hk <;> try exact hk.elim
  rename_i b hb
  have he := xeqT_sound (w := w) 20 hx hy hb 10000 (by omega)
  obtain ⟨e1, e2⟩ := eq_plain (t := t) hp y'
  split at hk <;> try exact hk.elim
  · obtain ⟨ds', hk⟩ := dcd_of hk
    exact .same r hk (by rw [e1]; simp [Op.equal, Op.maxDepth, he]) (.bool _)
  · obtain ⟨ds', hk⟩ := dcd_of hk
    exact .same r hk (by rw [e2]; simp [Op.equal, Op.maxDepth, he]) (.bool _)
theorem xbin_sound (r : RH L h w U) {op : BinOp} {t : TypeId} {x y : AV} {x' y' : Value} (hx : RV L x x') (hy : RV L y y') (xo yo : Operand) (hk : xbin m P op t x y h ds K) :
    SemOK P (do eqGuard op t xo yo x' y'; binOp op t x' y') L h w U K := by
  have key : (eqGuard op t xo yo x' y').run P w = .ok () w → SemOK P (binOp op t x' y') L h w U K → SemOK P (do eqGuard op t xo yo x' y'; binOp op t x' y') L h w U K := by
    rintro hg ⟨v, h', ds', L', v', w', a, b, c⟩
    exact ⟨v, h', ds', L', v', w', a, by simp [hg, b], c⟩
  have plain : ∀ {x : AV}, RV L x x' → cls x = true → xeqK m P op t x y h ds K → SemOK P (do eqGuard op t xo yo x' y'; binOp op t x' y') L h w U K := by
    intro x hx hc hk
    refine key ?_ (xeqK_sound r hx hy ?_ hk)
    · cases hx <;> first
        | (cases hc; done)
        | simp only [eqGuard_at_bool, eqGuard_at_pointer, eqGuard_at_slice, eqGuard_at_map, eqGuard_at_func, eqGuard_at_nilFunc, eqGuard_at_iface, Sem.run_pure]
    · cases hx <;> first
        | (cases hc; done)
        | rfl
  unfold xbin at hk
  split at hk
  · split at hk <;> try exact hk.elim
    rename_i k a _ k' b
    cases hx; cases hy
    refine key (by rw [eqGuard_at_int]; rfl) ?_
    cases hs : isSh op with
    | true =>
      rw [hs] at hk
      exact xshift_sound r (by cases op <;> first | exact .inl rfl | exact .inr rfl | cases hs) hk
    | false =>
      rw [hs] at hk
      cases hkk : Nat.beq (IntKind.num k) (IntKind.num k') with
      | false => simp only [hkk] at hk
      | true =>
        simp only [hkk] at hk
        have := kind_num hkk; subst this
        exact xint_sound r (by constructor <;> (intro e; subst e; cases hs)) hk
  · split at hk <;> try exact hk.elim
    cases hx with
    | str n v s hs => cases hy with
      | str n' v' s' hs' => exact key (by rw [eqGuard_at_string]; rfl) (xstr_sound r hs hs' hk)
  · split at hk <;> try exact hk.elim
    cases hg : P.eqGuardType P.depth t with
    | true => rw [hg] at hk; exact hk.elim
    | false =>
      rw [hg] at hk
      cases hx with
      | agg _ xs hxs => cases hy with
        | agg _ ys hys =>
          exact key (run_eqGuard_agg w op t xo yo xs ys hg) (xeqK_sound r (.agg _ xs hxs) (.agg _ ys hys) rfl hk)
  · split at hk <;> try exact hk.elim
    cases hx; cases hy
    exact key (by rw [eqGuard_nil_iface]; rfl) (xeqK_sound r .nili (.ifc _ _ _ (by assumption)) rfl hk)
  · cases hc : cls x with
    | false => rw [hc] at hk; exact hk.elim
    | true => rw [hc] at hk; exact plain hx hc hk
end
end
end Go.X

/- The executor's run in continuations is one outcome and what is done with it. -/
import Derived.Test.YtjhbegfkeppcbaaXM
set_option autoImplicit false
set_option linter.unusedVariables false
namespace Go.X
noncomputable section

def SplCall (call : XCall) : Prop := ∀ f args h ds, Spl h (fun K => call f args h ds K)
/-- one outcome of a run that ends in an environment of its own -/
def SplR {α : Type} (h : H) (F : (α → H → List Bool → Prop) → Prop) : Prop := ∀ K, F K → ∃ a h' ds', K a h' ds' ∧ h.next ≤ h'.next ∧ ∀ K', K' a h' ds' → F K'
section
variable {P : Program} {m : Bool}
def putD (dst : Option Nat) (v : AV) (loc : Lo) : Lo := match dst with
  | some d => (d, v) :: loc
  | none => loc
theorem putL_split {n : Nat} {dst : Option Nat} {v : AV} {loc : Lo} {K : Lo → Prop} (hk : putL n dst v loc K) :
    ∃ loc', K loc' ∧ (∀ K' : Lo → Prop, K' loc' → putL n dst v loc K') ∧ loc' = putD dst v loc ∧ ∀ d, dst = some d → d < n := by
  unfold putL at hk ⊢
  cases dst with
  | none => exact ⟨loc, hk, fun _ h => h, rfl, fun d h => by cases h⟩
  | some d =>
    have hk : (Bool.rec False (K ((d, v) :: loc)) (Nat.ble (Nat.succ d) n) : Prop) := hk
    cases hb : Nat.ble (Nat.succ d) n with
    | false => rw [hb] at hk; exact hk.elim
    | true => rw [hb] at hk; exact ⟨_, hk, fun K' h => by show (Bool.rec False (K' ((d, v) :: loc)) (Nat.ble (Nat.succ d) n) : Prop); rw [hb]; exact h, rfl, fun d' h => by cases h; exact Nat.le_of_ble_eq_true hb⟩
theorem wants_split {all : List Oper} {loc : Lo} {env : Env} {g : Option (Nat × Bool)} {K : Bool → Prop} (hk : wants all loc env g K) :
    ∃ b, K b ∧ ∀ K' : Bool → Prop, K' b → wants all loc env g K' := by
  unfold wants at hk ⊢
  cases g with
  | none => exact ⟨true, hk, fun _ h => h⟩
  | some x =>
    obtain ⟨j, want⟩ := x
    dsimp only at hk ⊢
    cases ho : lget all j with
    | none => rw [ho] at hk; exact hk.elim
    | some o =>
      rw [ho] at hk
      dsimp only at hk ⊢
      cases hd : o.dst with
      | none => rw [hd] at hk; exact hk.elim
      | some d =>
        rw [hd] at hk
        dsimp only at hk ⊢
        cases hl : look loc env d <;> rw [hl] at hk <;> first
          | exact hk.elim
          | exact ⟨_, hk, fun _ h => h⟩
theorem xact_spl {call : XCall} (hc : SplCall call) (ρ : Operand → AV) (op : Op) (h : H) (ds : List Bool) : Spl h (fun K => xact m P call ρ op h ds K) := by
  unfold xact
  split
  · rename_i c
    split
    · rename_i f hf
      cases ρ f <;> try exact s_false
      rename_i fn a b
      cases fn <;> first | exact hc _ _ _ _ | exact s_false
    · exact xop_s _ _ _
  · exact xop_s _ _ _
theorem xops_spl {call : XCall} (hc : SplCall call) {n : Nat} {env : Env} {all : List Oper} : ∀ (ops : List Oper) (loc : Lo) (h : H) (ds : List Bool),
    SplR h (fun K => xops m P call n env all ops loc h ds K)
  | [], loc, h, ds => fun K hk => ⟨loc, h, ds, hk, Nat.le_refl _, fun _ h => h⟩
  | o :: rest, loc, h, ds => fun K hk => by
    have key : ∀ K, xops m P call n env all (o :: rest) loc h ds K = wants all loc env o.guard (fun b => Bool.rec
      (putL n o.dst (.tup []) loc fun loc => xops m P call n env all rest loc h ds K)
      (xact m P call (opd loc env) o.op h ds fun v h ds => putL n o.dst v loc fun loc => xops m P call n env all rest loc h ds K) b) := fun _ => rfl
    dsimp only at hk
    rw [key] at hk
    obtain ⟨b, hk, back⟩ := wants_split hk
    cases b with
    | false =>
      obtain ⟨loc', hk, back2, _, _⟩ := putL_split hk
      obtain ⟨a, h', ds', e1, e2, e3⟩ := xops_spl hc rest loc' h ds K hk
      exact ⟨a, h', ds', e1, e2, fun K' hk' => by dsimp only; rw [key]; exact back _ (back2 _ (e3 K' hk'))⟩
    | true =>
      obtain ⟨v, h1, ds1, hk, l1, back1⟩ := xact_spl hc _ _ _ _ _ hk
      obtain ⟨loc', hk, back2, _, _⟩ := putL_split hk
      obtain ⟨a, h', ds', e1, e2, e3⟩ := xops_spl hc rest loc' h1 ds1 K hk
      exact ⟨a, h', ds', e1, Nat.le_trans l1 e2, fun K' hk' => by dsimp only; rw [key]; exact back _ (back1 _ (back2 _ (e3 K' hk')))⟩
theorem sameV_split {u v : AV} {K : Prop} (hk : sameV m u v K) : K ∧ ∀ K' : Prop, K' → sameV m u v K' := by
  cases m with
  | true => exact ⟨hk.2, fun _ h => ⟨hk.1, h⟩⟩
  | false =>
    have hk : (Bool.rec False K (avEq u v) : Prop) := hk
    show K ∧ ∀ K' : Prop, K' → (Bool.rec False K' (avEq u v) : Prop)
    cases hb : avEq u v with
    | true => rw [hb] at hk; exact ⟨hk, fun _ h => h⟩
    | false => rw [hb] at hk; exact hk.elim
theorem again_split {anc : List Nat} {i : Nat} {h : H} {ds : List Bool} : ∀ {rl : RLs} {K : Prop}, again m P anc i h ds rl K → K ∧ ∀ K' : Prop, K' → again m P anc i h ds rl K'
  | [], K, hk => ⟨hk, fun _ h => h⟩
  | x :: rl, K, hk => by
    have key : ∀ K, again m P anc i h ds (x :: rl) K = (Bool.rec (xload m P x.2.1 x.2.2.1 h ds fun u _ _ => sameV m u x.2.2.2 (again m P anc i h ds rl K)) (again m P anc i h ds rl K) (an anc x.1 i) : Prop) := fun _ => rfl
    rw [key] at hk
    cases hb : an anc x.1 i with
    | true =>
      rw [hb] at hk
      obtain ⟨a, b⟩ := again_split hk
      exact ⟨a, fun K' hk' => by rw [key, hb]; exact b K' hk'⟩
    | false =>
      rw [hb] at hk
      obtain ⟨v, ds', e1, e2⟩ := l_load _ hk
      obtain ⟨a, b⟩ := sameV_split e1
      obtain ⟨c, d⟩ := again_split a
      exact ⟨c, fun K' hk' => by rw [key, hb]; exact e2 _ (b _ (d K' hk'))⟩
theorem xdr_spl {call : XCall} (hc : SplCall call) {n : Nat} {env : Env} {all : List Oper} {anc : List Nat} : ∀ (its : List (Nat × Oper)) (loc : Lo) (h : H) (ds : List Bool) (rl : RLs),
    SplR h (fun K => xdr m P call n env all anc its loc h ds rl K)
  | [], loc, h, ds, rl => fun K hk => ⟨loc, h, ds, hk, Nat.le_refl _, fun _ h => h⟩
  | x :: rest, loc, h, ds, rl => fun K hk => by
    have key : ∀ K, xdr m P call n env all anc (x :: rest) loc h ds rl K = wants all loc env x.2.guard (fun b => Bool.rec
      (putL n x.2.dst (.tup []) loc fun loc => xdr m P call n env all anc rest loc h ds rl K)
      (xact m P call (opd loc env) x.2.op h ds fun v h ds => putL n x.2.dst v loc fun loc' =>
        Bool.rec (xdr m P call n env all anc rest loc' h ds (noteL x.2.op x.1 (opd loc env) v rl) K) (again m P anc x.1 h ds rl (xdr m P call n env all anc rest loc' h ds rl K)) (Nat.beq (kindO P x.2.op) 3)) b) := fun _ => rfl
    dsimp only at hk
    rw [key] at hk
    obtain ⟨b, hk, back⟩ := wants_split hk
    cases b with
    | false =>
      obtain ⟨loc', hk, back2, _, _⟩ := putL_split hk
      obtain ⟨a, h', ds', e1, e2, e3⟩ := xdr_spl hc rest loc' h ds rl K hk
      exact ⟨a, h', ds', e1, e2, fun K' hk' => by dsimp only; rw [key]; exact back _ (back2 _ (e3 K' hk'))⟩
    | true =>
      obtain ⟨v, h1, ds1, hk, l1, back1⟩ := xact_spl hc _ _ _ _ _ hk
      obtain ⟨loc', hk, back2, _, _⟩ := putL_split hk
      cases hb : Nat.beq (kindO P x.2.op) 3 with
      | false =>
        rw [hb] at hk
        obtain ⟨a, h', ds', e1, e2, e3⟩ := xdr_spl hc rest loc' h1 ds1 _ K hk
        exact ⟨a, h', ds', e1, Nat.le_trans l1 e2, fun K' hk' => by dsimp only; rw [key]; exact back _ (back1 _ (back2 _ (by rw [hb]; exact e3 K' hk')))⟩
      | true =>
        rw [hb] at hk
        obtain ⟨hk, back3⟩ := again_split hk
        obtain ⟨a, h', ds', e1, e2, e3⟩ := xdr_spl hc rest loc' h1 ds1 _ K hk
        exact ⟨a, h', ds', e1, Nat.le_trans l1 e2, fun K' hk' => by dsimp only; rw [key]; exact back _ (back1 _ (back2 _ (by rw [hb]; exact back3 _ (e3 K' hk'))))⟩
theorem xdraw_spl {call : XCall} (hc : SplCall call) {n : Nat} {env : Env} {ops : List Oper} {h : H} {ds : List Bool} : SplR h (fun K => xdraw m P call n env ops h ds K) := by
  unfold xdraw
  cases planOf P ops with
  | none => exact fun K hk => hk.elim
  | some its => exact xdr_spl hc its [] h ds []
theorem xres_split {env : Env} {h : H} {ds : List Bool} : ∀ {rs : List ResultVar} {K : List AV → Prop}, xres m P env h ds rs K → ∃ vs, K vs ∧ ∀ K' : List AV → Prop, K' vs → xres m P env h ds rs K'
  | [], K, hk => ⟨[], hk, fun _ h => h⟩
  | r :: rs, K, hk => by
    cases r with
    | tmp t =>
      have hk : xres m P env h ds rs (fun vs => K (eget env t :: vs)) := hk
      obtain ⟨vs, a, b⟩ := xres_split hk
      exact ⟨_, a, fun K' hk' => b (fun vs => K' (eget env t :: vs)) hk'⟩
    | cell a t =>
      have hk : xload m P t (eget env a) h ds (fun v _ _ => xres m P env h ds rs fun vs => K (v :: vs)) := hk
      obtain ⟨v, ds', e1, e2⟩ := l_load _ hk
      obtain ⟨vs, a, b⟩ := xres_split e1
      exact ⟨_, a, fun K' hk' => e2 (fun v _ _ => xres m P env h ds rs fun vs => K' (v :: vs)) (b (fun vs => K' (v :: vs)) hk')⟩

/-- contracts come to one outcome -/
def SplCon (C : Cfg) : Prop := ∀ f c, C.con f = some c → ∀ args h ds, Spl h (fun K => c args h ds K)
def SplCode (X : XCode) : Prop := ∀ code mask n env h ds (K : KE), X code mask n env h ds K → ∃ x e h' ds', K x e h' ds' ∧ h.next ≤ h'.next ∧ ∀ K' : KE, K' x e h' ds' → X code mask n env h ds K'
theorem xfun_spl {C : Cfg} (hC : SplCon C) {X : XCode} (hX : SplCode X) : SplCall (xfun C P X) := by
  intro f args h ds
  unfold xfun
  refine s_bool s_false ?_
  cases hc : C.con f with
  | some c => exact hC f c hc args h ds
  | none =>
    dsimp only
    cases P.funcs[f]? with
    | none => exact s_false
    | some fn =>
      dsimp only
      cases fn.body with
      | none => exact s_false
      | some b =>
        refine s_bool s_false ?_
        intro K hk
        obtain ⟨x, e, h', ds', e1, e2, e3⟩ := hX _ _ _ _ _ _ _ hk
        cases x <;> first
          | exact e1.elim
          | (obtain ⟨vs, a, b⟩ := xres_split e1
             exact ⟨_, h', ds', a, e2, fun K' hk' => e3 _ (b (fun vs => K' (one1 vs) h' ds') hk')⟩)
theorem xcode_spl {C : Cfg} (hC : SplCon C) : ∀ fuel, SplCode (xcode C P fuel)
  | 0 => fun code mask n env h ds K hk => hk.elim
  | fuel + 1 => by
    have ih := xcode_spl hC fuel
    have hcall := xfun_spl (P := P) hC ih
    have here : ∀ {x : XE} {env : Env} {h : H} {ds : List Bool} {K : KE} {F : KE → Prop}, (∀ K, F K = K x env h ds) → F K → ∃ x e h' ds', K x e h' ds' ∧ h.next ≤ h'.next ∧ ∀ K' : KE, K' x e h' ds' → F K' :=
      fun hF hk => ⟨_, _, _, _, by rw [hF] at hk; exact hk, Nat.le_refl _, fun K' hk' => by rw [hF]; exact hk'⟩
    intro code mask n env h ds K hk
    cases code with
    | skip => exact here (F := fun K => xcode C P (fuel + 1) .skip mask n env h ds K) (fun _ => rfl) hk
    | label l => exact here (F := fun K => xcode C P (fuel + 1) (.label l) mask n env h ds K) (fun _ => rfl) hk
    | exit id => exact here (F := fun K => xcode C P (fuel + 1) (.exit id) mask n env h ds K) (fun _ => rfl) hk
    | goto l => exact here (F := fun K => xcode C P (fuel + 1) (.goto l) mask n env h ds K) (fun _ => rfl) hk
    | ret => exact here (F := fun K => xcode C P (fuel + 1) .ret mask n env h ds K) (fun _ => rfl) hk
    | rangeFunc => exact hk.elim
    | scope => exact hk.elim
    | refuse => exact hk.elim
    | region id ops draw =>
      cases draw with
      | false =>
        obtain ⟨loc, h', ds', e1, e2, e3⟩ := xops_spl hcall ops.toList [] h ds _ hk
        exact ⟨_, _, h', ds', e1, e2, fun K' hk' => e3 (fun loc h ds => K' .nrm (flush mask loc env) h ds) hk'⟩
      | true =>
        obtain ⟨loc, h', ds', e1, e2, e3⟩ := xdraw_spl hcall _ hk
        exact ⟨_, _, h', ds', e1, e2, fun K' hk' => e3 (fun loc h ds => K' .nrm (flush mask loc env) h ds) hk'⟩
    | seq a b =>
      obtain ⟨x, e, h', ds', e1, e2, e3⟩ := ih _ _ _ _ _ _ _ hk
      cases x with
      | nrm =>
        obtain ⟨x2, e', h2, ds2, f1, f2, f3⟩ := ih _ _ _ _ _ _ _ e1
        exact ⟨x2, e', h2, ds2, f1, Nat.le_trans e2 f2, fun K' hk' => e3 _ (f3 K' hk')⟩
      | ext id => exact ⟨_, e, h', ds', e1, e2, fun K' hk' => e3 _ hk'⟩
      | gto l => exact ⟨_, e, h', ds', e1, e2, fun K' hk' => e3 _ hk'⟩
      | ret => exact ⟨_, e, h', ds', e1, e2, fun K' hk' => e3 _ hk'⟩
    | cond c a b =>
      have key : ∀ K, xcode C P (fuel + 1) (.cond c a b) mask n env h ds K = (match opd [] env c with
        | .bool t => (Bool.rec (xcode C P fuel b mask n env h ds K) (xcode C P fuel a mask n env h ds K) t : Prop)
        | _ => False) := fun _ => rfl
      rw [key] at hk
      cases hv : opd [] env c <;> rw [hv] at hk <;> try exact hk.elim
      rename_i t
      cases t with
      | false =>
        obtain ⟨x, e, h', ds', e1, e2, e3⟩ := ih _ _ _ _ _ _ _ hk
        exact ⟨x, e, h', ds', e1, e2, fun K' hk' => by rw [key, hv]; exact e3 K' hk'⟩
      | true =>
        obtain ⟨x, e, h', ds', e1, e2, e3⟩ := ih _ _ _ _ _ _ _ hk
        exact ⟨x, e, h', ds', e1, e2, fun K' hk' => by rw [key, hv]; exact e3 K' hk'⟩
    | block id c =>
      have key : ∀ K, xcode C P (fuel + 1) (.block id c) mask n env h ds K = xcode C P fuel c mask n env h ds (fun x env h ds => Bool.rec (K x env h ds) (K .nrm env h ds) (isExt x id)) := fun _ => rfl
      rw [key] at hk
      obtain ⟨x, e, h', ds', e1, e2, e3⟩ := ih _ _ _ _ _ _ _ hk
      cases hb : isExt x id with
      | true => rw [hb] at e1; exact ⟨_, e, h', ds', e1, e2, fun K' hk' => by rw [key]; exact e3 _ (by rw [hb]; exact hk')⟩
      | false => rw [hb] at e1; exact ⟨_, e, h', ds', e1, e2, fun K' hk' => by rw [key]; exact e3 _ (by rw [hb]; exact hk')⟩
    | loop c =>
      obtain ⟨x, e, h', ds', e1, e2, e3⟩ := ih _ _ _ _ _ _ _ hk
      cases x with
      | nrm =>
        obtain ⟨x2, e', h2, ds2, f1, f2, f3⟩ := ih _ _ _ _ _ _ _ e1
        exact ⟨x2, e', h2, ds2, f1, Nat.le_trans e2 f2, fun K' hk' => e3 _ (f3 K' hk')⟩
      | ext id => exact ⟨_, e, h', ds', e1, e2, fun K' hk' => e3 _ hk'⟩
      | gto l => exact ⟨_, e, h', ds', e1, e2, fun K' hk' => e3 _ hk'⟩
      | ret => exact ⟨_, e, h', ds', e1, e2, fun K' hk' => e3 _ hk'⟩
end
end
end Go.X

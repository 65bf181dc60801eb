/- The executor: regions, code, calls. -/
import Derived.Test.YtoeoaiipchklbaaDoorE3
set_option linter.unusedVariables false
set_option autoImplicit false
namespace Go.X
noncomputable section

abbrev Env := T AV
abbrev Lo := List (Nat × AV)
/-- is a bit of a number set? -/
def bit (m i : Nat) : Bool := Nat.beq (Nat.mod (Nat.shiftRight m i) 2) 1
def eget (env : Env) (t : Nat) : AV := Option.rec AV.any (fun v => v) (T.get env t)
def look (loc : Lo) (env : Env) (t : Nat) : AV := List.rec (eget env t) (fun p _ ih => Bool.rec ih p.2 (Nat.beq p.1 t)) loc
def flush (mask : Nat) (loc : Lo) (env : Env) : Env := List.rec env (fun p _ ih => Bool.rec ih (T.set ih p.2 p.1) (bit mask p.1)) loc
/-- which block a global is -/
abbrev Glob := Nat → Option Nat
def opd (gl : Glob) (loc : Lo) (env : Env) (x : Operand) : AV := match x with
  | .tmp t => look loc env t
  | .const v => ofV v
  | .global g => match gl g with
    | some i => .ptr i 0
    | none => .any
  | .func f => .fn (.func f) [] []
abbrev XCall := Nat → List AV → H → List Bool → KV → Prop
/-- an operation that may be a call -/
def xact (m : Bool) (P : Program) (call : XCall) (ρ : Operand → AV) (op : Op) (h : H) (ds : List Bool) (K : KV) : Prop :=
  match op with
  | .call c => match c.callee with
    | .value f => match ρ f with
      | .fn (.func g) first cap => call g (lapp first (lapp (lmap ρ c.args.toList) cap)) h ds K
      | _ => False
    | _ => xop m P ρ (.call c) h ds K
  | op => xop m P ρ op h ds K
def putL (n : Nat) (dst : Option Nat) (v : AV) (loc : Lo) (K : Lo → Prop) : Prop := match dst with
  | some d => Bool.rec False (K ((d, v) :: loc)) (Nat.ble (Nat.succ d) n)
  | none => K loc
/-- does an operation run? -/
def wants (all : List Oper) (loc : Lo) (env : Env) (g : Option (Nat × Bool)) (K : Bool → Prop) : Prop := match g with
  | none => K true
  | some (j, want) => match lget all j with
    | some o => match o.dst with
      | some d => match look loc env d with
        | .bool b => K (Bool.rec (Bool.not b) b want)
        | .tup _ => K false
        | _ => False
      | none => False
    | none => False
def xops (m : Bool) (P : Program) (gl : Glob) (call : XCall) (n : Nat) (env : Env) (all ops : List Oper) (loc : Lo) (h : H) (ds : List Bool) (K : Lo → H → List Bool → Prop) : Prop :=
  List.rec (motive := fun _ => Lo → H → List Bool → Prop) K
    (fun o _ ih loc h ds => wants all loc env o.guard fun b => Bool.rec
      (putL n o.dst (.tup []) loc fun loc => ih loc h ds)
      (xact m P call (opd gl loc env) o.op h ds fun v h ds => putL n o.dst v loc fun loc => ih loc h ds) b) ops loc h ds

/-! Regions that draw their order: one canonical order, with every look into memory looked at again behind what acts. -/
def preds (o : Oper) : List Nat := (o.after.toList.filter fun e => Region.binds .any e).map (·.on)
def maskP (acc : List Nat) (o : Oper) : Nat := (preds o).foldl (fun s e => s ||| 2 ^ e ||| (lget acc e).getD 0) 0
def ancL : List Oper → List Nat → List Nat
  | [], acc => acc
  | o :: r, acc => ancL r (acc ++ [maskP acc o])
def an (anc : List Nat) (i j : Nat) : Bool := bit ((lget anc j).getD 0) i
def kindO (P : Program) (op : Op) : Nat := if isQ P op then 0 else if isL op then 1 else if isA op then 2 else 3
def tmpsOf (op : Op) : List Nat := op.operands.toList.filterMap fun x => match x with
  | .tmp t => some t
  | _ => none
def looks (ops : List Oper) (o : Oper) : List Nat := tmpsOf o.op ++ (match o.guard with
  | some (g, _) => match lget ops g with
    | some og => og.dst.toList
    | none => []
  | none => [])
/-- the next operation of the canonical order; done: those that are listed -/
def nextO (P : Program) (ops : List (Nat × Oper)) (anc : List Nat) (done : Nat) : Option Nat :=
  let free (x : Nat × Oper) : Bool := !bit done x.1 && (preds x.2).all fun e => bit done e
  match ops.find? fun x => free x && decide (kindO P x.2.op ≤ 1) with
  | some x => some x.1
  | none => match ops.find? fun x => !bit done x.1 && decide (kindO P x.2.op = 3) with
    | some e => if free e then some e.1 else (ops.find? fun x => free x && an anc x.1 e.1).map (·.1)
    | none => (ops.find? fun x => free x).map (·.1)
def canonF (P : Program) (ops : List (Nat × Oper)) (anc : List Nat) : Nat → Nat → List Nat → List Nat
  | 0, _, acc => acc.reverse
  | f + 1, done, acc => match nextO P ops anc done with
    | some i => canonF P ops anc f (done + 2 ^ i) (i :: acc)
    | none => acc.reverse
def canon (P : Program) (ops : List Oper) : List Nat := canonF P (ops.zipIdx.map fun x => (x.2, x.1)) (ancL ops []) ops.length 0 []
def okPair (P : Program) (ops : List Oper) (anc : List Nat) (j i : Nat) (oj oi : Oper) : Bool :=
  -- j stands ahead of i
  (an anc j i || ((match oj.dst with | some t => !(looks ops oi).contains t | none => true) &&
    (match oi.dst with | some t => !(looks ops oj).contains t | none => true) &&
    (!(kindO P oi.op == 3) || !(kindO P oj.op == 3 || kindO P oj.op == 2)) &&
    (!(kindO P oi.op == 1) || !(kindO P oj.op == 3)))) &&
  (match oi.dst with | some t => oj.dst != some t | none => true)
def okOne (P : Program) (ops : List Oper) (anc : List Nat) (bef : List (Nat × Oper)) (i : Nat) (oi : Oper) : Bool :=
  (bef.all fun x => x.1 != i && okPair P ops anc x.1 i x.2 oi) && ((preds oi).all fun e => (bef.map (·.1)).contains e) &&
  (match oi.guard with | some (g, _) => an anc g i && (bef.map (·.1)).contains g | none => true)
def okAll (P : Program) (ops : List Oper) (anc : List Nat) : List (Nat × Oper) → List (Nat × Oper) → Bool
  | _, [] => true
  | bef, x :: r => okOne P ops anc bef x.1 x.2 && okAll P ops anc (bef ++ [x]) r
def itemsOf (ops : List Oper) (pi : List Nat) : Option (List (Nat × Oper)) := pi.mapM fun i => (lget ops i).map fun o => (i, o)
/-- the canonical order of a region, if it serves -/
def planOf (P : Program) (ops : List Oper) : Option (List (Nat × Oper)) :=
  match itemsOf ops (canon P ops) with
  | some its => if okAll P ops (ancL ops []) [] its && its.length == ops.length && P.follows .mixedOrders then some its else none
  | none => none
def flatEq (a b : AV) : Bool := match a with
  | .bool x => match b with
    | .bool y => Bool.rec (Bool.not y) y x
    | _ => false
  | .int k n => match b with
    | .int k' n' => Bool.and (Nat.beq (IntKind.num k) (IntKind.num k')) (eqI n n')
    | _ => false
  | .str n v => match b with
    | .str n' v' => Bool.and (Nat.beq n n') (Nat.beq v v')
    | _ => false
  | .nilp => match b with
    | .nilp => true
    | _ => false
  | .ptr i o => match b with
    | .ptr i' o' => Bool.and (Nat.beq i i') (Nat.beq o o')
    | _ => false
  | .nils => match b with
    | .nils => true
    | _ => false
  | .slc i o l c e s => match b with
    | .slc i' o' l' c' e' s' => Bool.and (Nat.beq i i') (Bool.and (Nat.beq o o') (Bool.and (Nat.beq l l') (Bool.and (Nat.beq c c') (Bool.and (Bool.rec (Bool.not e') e' e) (Nat.beq s s')))))
    | _ => false
  | .nilm => match b with
    | .nilm => true
    | _ => false
  | .map i => match b with
    | .map i' => Nat.beq i i'
    | _ => false
  | .nilf => match b with
    | .nilf => true
    | _ => false
  | .nili => match b with
    | .nili => true
    | _ => false
  | .fn (.func f) [] [] => match b with
    | .fn (.func g) [] [] => Nat.beq f g
    | _ => false
  | _ => false
def flatEqs (as : List AV) : List AV → Bool := List.rec (motive := fun _ => List AV → Bool) (fun bs => match bs with
    | [] => true
    | _ => false) (fun a _ ih bs => match bs with
    | [] => false
    | b :: bs => Bool.and (flatEq a b) (ih bs)) as
def avEq (a b : AV) : Bool := match a with
  | .agg xs => match b with
    | .agg ys => flatEqs xs ys
    | _ => false
  | .fn (.func f) xs zs => match b with
    | .fn (.func g) ys us => Bool.and (Nat.beq f g) (Bool.and (flatEqs xs ys) (flatEqs zs us))
    | _ => false
  | a => flatEq a b
/-- is what is read now what was read? -/
def sameV (m : Bool) (u v : AV) (K : Prop) : Prop := Bool.rec (Bool.rec False K (avEq u v)) (u = v ∧ K) m
abbrev RLs := List (Nat × TypeId × AV × AV)
def again (m : Bool) (P : Program) (anc : List Nat) (i : Nat) (h : H) (ds : List Bool) (rl : RLs) (K : Prop) : Prop :=
  List.rec K (fun x _ ih => Bool.rec (xload m P x.2.1 x.2.2.1 h ds fun u _ _ => sameV m u x.2.2.2 ih) ih (an anc x.1 i)) rl
def noteL (op : Op) (i : Nat) (ρ : Operand → AV) (v : AV) (rl : RLs) : RLs := match op with
  | .load t a => (i, t, ρ a, v) :: rl
  | _ => rl
def xdr (m : Bool) (P : Program) (gl : Glob) (call : XCall) (n : Nat) (env : Env) (all : List Oper) (anc : List Nat) (its : List (Nat × Oper)) (loc : Lo) (h : H) (ds : List Bool) (rl : RLs) (K : Lo → H → List Bool → Prop) : Prop :=
  List.rec (motive := fun _ => Lo → H → List Bool → RLs → Prop) (fun loc h ds _ => K loc h ds)
    (fun x _ ih loc h ds rl => wants all loc env x.2.guard fun b => Bool.rec
      (putL n x.2.dst (.tup []) loc fun loc => ih loc h ds rl)
      (xact m P call (opd gl loc env) x.2.op h ds fun v h ds => putL n x.2.dst v loc fun loc' =>
        Bool.rec (ih loc' h ds (noteL x.2.op x.1 (opd gl loc env) v rl)) (again m P anc x.1 h ds rl (ih loc' h ds rl)) (Nat.beq (kindO P x.2.op) 3)) b) its loc h ds rl
def xdraw (m : Bool) (P : Program) (gl : Glob) (call : XCall) (n : Nat) (env : Env) (ops : List Oper) (h : H) (ds : List Bool) (K : Lo → H → List Bool → Prop) : Prop :=
  match planOf P ops with
  | some its => xdr m P gl call n env ops (ancL ops []) its [] h ds [] K
  | none => False

inductive XE where
  | nrm
  | ext (id : Nat)
  | gto (l : Nat)
  | ret
abbrev KE := XE → Env → H → List Bool → Prop
def isExt (x : XE) (id : Nat) : Bool := match x with
  | .ext i => Nat.beq i id
  | _ => false
def xres (m : Bool) (P : Program) (env : Env) (h : H) (ds : List Bool) (rs : List ResultVar) (K : List AV → Prop) : Prop :=
  List.rec (motive := fun _ => (List AV → Prop) → Prop) (fun K => K []) (fun r _ ih K => match r with
    | .tmp t => ih fun vs => K (eget env t :: vs)
    | .cell a t => xload m P t (eget env a) h ds fun v _ _ => ih fun vs => K (v :: vs)) rs K
def one1 (vs : List AV) : AV := match vs with
  | [v] => v
  | vs => .tup vs
def argEnv (mask : Nat) (args : List AV) : Env :=
  List.rec (motive := fun _ => Nat → Env) (fun _ => T.leaf) (fun a _ ih k => Bool.rec (ih (Nat.succ k)) (T.set (ih (Nat.succ k)) a k) (bit mask k)) args 0
/-- what the executor is given: how deep it may go, the slots of each function that it keeps, contracts -/
abbrev LCon := Env → H → List Bool → KE → Prop
/-- the name of a loop in its function: the first region in it, and how deep that lies in loops -/
def fid (c : Code) : Nat := Code.rec 0 (fun id _ _ => Nat.succ id) (fun _ _ a b => Bool.rec a b (Nat.beq a 0)) (fun _ _ _ a b => Bool.rec a b (Nat.beq a 0)) (fun _ _ a => a) (fun _ a => Nat.add 1000 a)
  (fun _ _ _ _ _ _ => 0) (fun _ => 0) (fun _ a => a) (fun _ => 0) (fun _ => 0) 0 (fun _ => 0) c
structure Cfg where
  mode : Bool
  mask : Nat → Nat
  con : Nat → Option (List AV → H → List Bool → KV → Prop)
  lc : Nat → Nat → Option LCon
  gl : Glob
abbrev XCode := Nat → Code → Nat → Nat → Env → H → List Bool → KE → Prop
def enterable (P : Program) (f : Nat) : Bool := match P.funcs[f]? with
  | some fn => match fn.body with
    | some _ => Bool.not (fn.name == "runtime.NumGoroutine")
    | none => false
  | none => false
def xfun (C : Cfg) (P : Program) (ih : XCode) (f : Nat) (args : List AV) (h : H) (ds : List Bool) (K : KV) : Prop :=
  Bool.rec False (match C.con f with
  | some c => c args h ds K
  | none => match P.funcs[f]? with
    | some fn => match fn.body with
      | some b => Bool.rec False
          (ih f b (C.mask f) fn.ntmps (argEnv (C.mask f) args) h ds fun x env h ds => match x with
            | .nrm => xres C.mode P env h ds fn.results.toList fun vs => K (one1 vs) h ds
            | .ret => xres C.mode P env h ds fn.results.toList fun vs => K (one1 vs) h ds
            | _ => False)
          (Nat.ble (llen args) fn.ntmps)
      | none => False
    | none => False) (enterable P f)
def xcode (C : Cfg) (P : Program) (fuel : Nat) : XCode :=
  Nat.rec (fun _ _ _ _ _ _ _ _ => False) (fun _ ih f code mask n env h ds K => match code with
    | .skip => K .nrm env h ds
    | .label _ => K .nrm env h ds
    | .region _ ops draw => Bool.rec (xops C.mode P C.gl (xfun C P ih) n env ops.toList ops.toList [] h ds fun loc h ds => K .nrm (flush mask loc env) h ds)
      (xdraw C.mode P C.gl (xfun C P ih) n env ops.toList h ds fun loc h ds => K .nrm (flush mask loc env) h ds) draw
    | .seq a b => ih f a mask n env h ds fun x env h ds => match x with
      | .nrm => ih f b mask n env h ds K
      | x => K x env h ds
    | .cond c a b => match opd C.gl [] env c with
      | .bool t => Bool.rec (ih f b mask n env h ds K) (ih f a mask n env h ds K) t
      | _ => False
    | .block id c => ih f c mask n env h ds fun x env h ds => Bool.rec (K x env h ds) (K .nrm env h ds) (isExt x id)
    | .loop c => match C.lc f (fid c) with
      | some l => l env h ds K
      | none => ih f c mask n env h ds fun x env h ds => match x with
      | .nrm => ih f (.loop c) mask n env h ds K
      | x => K x env h ds
    | .exit id => K (.ext id) env h ds
    | .goto l => K (.gto l) env h ds
    | .ret => K .ret env h ds
    | _ => False) fuel
end
end Go.X
/- The executor's run in continuations is one outcome and what is done with it. -/
set_option autoImplicit false
set_option linter.unusedVariables false
namespace Go.X
noncomputable section

def SplCall (call : XCall) : Prop := ∀ f args h ds, Spl h (fun K => call f args h ds K)
/-- one outcome of a run that ends in an environment of its own -/
def SplR {α : Type} (h : H) (F : (α → H → List Bool → Prop) → Prop) : Prop := ∀ K, F K → ∃ a h' ds', K a h' ds' ∧ h.next ≤ h'.next ∧ ∀ K', K' a h' ds' → F K'
section
variable {P : Program} {m : Bool} {gl : Glob}
def putD (dst : Option Nat) (v : AV) (loc : Lo) : Lo := match dst with
  | some d => (d, v) :: loc
  | none => loc
theorem putL_split {n : Nat} {dst : Option Nat} {v : AV} {loc : Lo} {K : Lo → Prop} (hk : putL n dst v loc K) :
    ∃ loc', K loc' ∧ (∀ K' : Lo → Prop, K' loc' → putL n dst v loc K') ∧ loc' = putD dst v loc ∧ ∀ d, dst = some d → d < n := by
  unfold putL at hk ⊢
  cases dst with
  | none => exact ⟨loc, hk, fun _ h => h, rfl, fun d h => by cases h⟩
  | some d =>
    have hk : (Bool.rec False (K ((d, v) :: loc)) (Nat.ble (Nat.succ d) n) : Prop) := hk
    cases hb : Nat.ble (Nat.succ d) n with
    | false => rw [hb] at hk; exact hk.elim
    | true => rw [hb] at hk; exact ⟨_, hk, fun K' h => by show (Bool.rec False (K' ((d, v) :: loc)) (Nat.ble (Nat.succ d) n) : Prop); rw [hb]; exact h, rfl, fun d' h => by cases h; exact Nat.le_of_ble_eq_true hb⟩
theorem wants_split {all : List Oper} {loc : Lo} {env : Env} {g : Option (Nat × Bool)} {K : Bool → Prop} (hk : wants all loc env g K) :
    ∃ b, K b ∧ ∀ K' : Bool → Prop, K' b → wants all loc env g K' := by
  unfold wants at hk ⊢
  cases g with
  | none => exact ⟨true, hk, fun _ h => h⟩
  | some x =>
    obtain ⟨j, want⟩ := x
    dsimp only at hk ⊢
    cases ho : lget all j with
    | none => rw [ho] at hk; exact hk.elim
    | some o =>
      rw [ho] at hk
      dsimp only at hk ⊢
      cases hd : o.dst with
      | none => rw [hd] at hk; exact hk.elim
      | some d =>
        rw [hd] at hk
        dsimp only at hk ⊢
        cases hl : look loc env d <;> rw [hl] at hk <;> first
          | exact hk.elim
          | exact ⟨_, hk, fun _ h => h⟩
theorem xact_spl {call : XCall} (hc : SplCall call) (ρ : Operand → AV) (op : Op) (h : H) (ds : List Bool) : Spl h (fun K => xact m P call ρ op h ds K) := by
  unfold xact
  split
  · rename_i c
    split
    · rename_i f hf
      cases ρ f <;> try exact s_false
      rename_i fn a b
      cases fn <;> first | exact hc _ _ _ _ | exact s_false
    · exact xop_s _ _ _
  · exact xop_s _ _ _
theorem xops_spl {call : XCall} (hc : SplCall call) {n : Nat} {env : Env} {all : List Oper} : ∀ (ops : List Oper) (loc : Lo) (h : H) (ds : List Bool),
    SplR h (fun K => xops m P gl call n env all ops loc h ds K)
  | [], loc, h, ds => fun K hk => ⟨loc, h, ds, hk, Nat.le_refl _, fun _ h => h⟩
  | o :: rest, loc, h, ds => fun K hk => by
    have key : ∀ K, xops m P gl call n env all (o :: rest) loc h ds K = wants all loc env o.guard (fun b => Bool.rec
      (putL n o.dst (.tup []) loc fun loc => xops m P gl call n env all rest loc h ds K)
      (xact m P call (opd gl loc env) o.op h ds fun v h ds => putL n o.dst v loc fun loc => xops m P gl call n env all rest loc h ds K) b) := fun _ => rfl
    dsimp only at hk
    rw [key] at hk
    obtain ⟨b, hk, back⟩ := wants_split hk
    cases b with
    | false =>
      obtain ⟨loc', hk, back2, _, _⟩ := putL_split hk
      obtain ⟨a, h', ds', e1, e2, e3⟩ := xops_spl hc rest loc' h ds K hk
      exact ⟨a, h', ds', e1, e2, fun K' hk' => by dsimp only; rw [key]; exact back _ (back2 _ (e3 K' hk'))⟩
    | true =>
      obtain ⟨v, h1, ds1, hk, l1, back1⟩ := xact_spl hc _ _ _ _ _ hk
      obtain ⟨loc', hk, back2, _, _⟩ := putL_split hk
      obtain ⟨a, h', ds', e1, e2, e3⟩ := xops_spl hc rest loc' h1 ds1 K hk
      exact ⟨a, h', ds', e1, Nat.le_trans l1 e2, fun K' hk' => by dsimp only; rw [key]; exact back _ (back1 _ (back2 _ (e3 K' hk')))⟩
theorem sameV_split {u v : AV} {K : Prop} (hk : sameV m u v K) : K ∧ ∀ K' : Prop, K' → sameV m u v K' := by
  cases m with
  | true => exact ⟨hk.2, fun _ h => ⟨hk.1, h⟩⟩
  | false =>
    have hk : (Bool.rec False K (avEq u v) : Prop) := hk
    show K ∧ ∀ K' : Prop, K' → (Bool.rec False K' (avEq u v) : Prop)
    cases hb : avEq u v with
    | true => rw [hb] at hk; exact ⟨hk, fun _ h => h⟩
    | false => rw [hb] at hk; exact hk.elim
theorem again_split {anc : List Nat} {i : Nat} {h : H} {ds : List Bool} : ∀ {rl : RLs} {K : Prop}, again m P anc i h ds rl K → K ∧ ∀ K' : Prop, K' → again m P anc i h ds rl K'
  | [], K, hk => ⟨hk, fun _ h => h⟩
  | x :: rl, K, hk => by
    have key : ∀ K, again m P anc i h ds (x :: rl) K = (Bool.rec (xload m P x.2.1 x.2.2.1 h ds fun u _ _ => sameV m u x.2.2.2 (again m P anc i h ds rl K)) (again m P anc i h ds rl K) (an anc x.1 i) : Prop) := fun _ => rfl
    rw [key] at hk
    cases hb : an anc x.1 i with
    | true =>
      rw [hb] at hk
      obtain ⟨a, b⟩ := again_split hk
      exact ⟨a, fun K' hk' => by rw [key, hb]; exact b K' hk'⟩
    | false =>
      rw [hb] at hk
      obtain ⟨v, ds', e1, e2⟩ := l_load _ hk
      obtain ⟨a, b⟩ := sameV_split e1
      obtain ⟨c, d⟩ := again_split a
      exact ⟨c, fun K' hk' => by rw [key, hb]; exact e2 _ (b _ (d K' hk'))⟩
theorem xdr_spl {call : XCall} (hc : SplCall call) {n : Nat} {env : Env} {all : List Oper} {anc : List Nat} : ∀ (its : List (Nat × Oper)) (loc : Lo) (h : H) (ds : List Bool) (rl : RLs),
    SplR h (fun K => xdr m P gl call n env all anc its loc h ds rl K)
  | [], loc, h, ds, rl => fun K hk => ⟨loc, h, ds, hk, Nat.le_refl _, fun _ h => h⟩
  | x :: rest, loc, h, ds, rl => fun K hk => by
    have key : ∀ K, xdr m P gl call n env all anc (x :: rest) loc h ds rl K = wants all loc env x.2.guard (fun b => Bool.rec
      (putL n x.2.dst (.tup []) loc fun loc => xdr m P gl call n env all anc rest loc h ds rl K)
      (xact m P call (opd gl loc env) x.2.op h ds fun v h ds => putL n x.2.dst v loc fun loc' =>
        Bool.rec (xdr m P gl call n env all anc rest loc' h ds (noteL x.2.op x.1 (opd gl loc env) v rl) K) (again m P anc x.1 h ds rl (xdr m P gl call n env all anc rest loc' h ds rl K)) (Nat.beq (kindO P x.2.op) 3)) b) := fun _ => rfl
    dsimp only at hk
    rw [key] at hk
    obtain ⟨b, hk, back⟩ := wants_split hk
    cases b with
    | false =>
      obtain ⟨loc', hk, back2, _, _⟩ := putL_split hk
      obtain ⟨a, h', ds', e1, e2, e3⟩ := xdr_spl hc rest loc' h ds rl K hk
      exact ⟨a, h', ds', e1, e2, fun K' hk' => by dsimp only; rw [key]; exact back _ (back2 _ (e3 K' hk'))⟩
    | true =>
      obtain ⟨v, h1, ds1, hk, l1, back1⟩ := xact_spl hc _ _ _ _ _ hk
      obtain ⟨loc', hk, back2, _, _⟩ := putL_split hk
      cases hb : Nat.beq (kindO P x.2.op) 3 with
      | false =>
        rw [hb] at hk
        obtain ⟨a, h', ds', e1, e2, e3⟩ := xdr_spl hc rest loc' h1 ds1 _ K hk
        exact ⟨a, h', ds', e1, Nat.le_trans l1 e2, fun K' hk' => by dsimp only; rw [key]; exact back _ (back1 _ (back2 _ (by rw [hb]; exact e3 K' hk')))⟩
      | true =>
        rw [hb] at hk
        obtain ⟨hk, back3⟩ := again_split hk
        obtain ⟨a, h', ds', e1, e2, e3⟩ := xdr_spl hc rest loc' h1 ds1 _ K hk
        exact ⟨a, h', ds', e1, Nat.le_trans l1 e2, fun K' hk' => by dsimp only; rw [key]; exact back _ (back1 _ (back2 _ (by rw [hb]; exact back3 _ (e3 K' hk'))))⟩
theorem xdraw_spl {call : XCall} (hc : SplCall call) {n : Nat} {env : Env} {ops : List Oper} {h : H} {ds : List Bool} : SplR h (fun K => xdraw m P gl call n env ops h ds K) := by
  unfold xdraw
  cases planOf P ops with
  | none => exact fun K hk => hk.elim
  | some its => exact xdr_spl hc its [] h ds []
theorem xres_split {env : Env} {h : H} {ds : List Bool} : ∀ {rs : List ResultVar} {K : List AV → Prop}, xres m P env h ds rs K → ∃ vs, K vs ∧ ∀ K' : List AV → Prop, K' vs → xres m P env h ds rs K'
  | [], K, hk => ⟨[], hk, fun _ h => h⟩
  | r :: rs, K, hk => by
    cases r with
    | tmp t =>
      have hk : xres m P env h ds rs (fun vs => K (eget env t :: vs)) := hk
      obtain ⟨vs, a, b⟩ := xres_split hk
      exact ⟨_, a, fun K' hk' => b (fun vs => K' (eget env t :: vs)) hk'⟩
    | cell a t =>
      have hk : xload m P t (eget env a) h ds (fun v _ _ => xres m P env h ds rs fun vs => K (v :: vs)) := hk
      obtain ⟨v, ds', e1, e2⟩ := l_load _ hk
      obtain ⟨vs, a, b⟩ := xres_split e1
      exact ⟨_, a, fun K' hk' => e2 (fun v _ _ => xres m P env h ds rs fun vs => K' (v :: vs)) (b (fun vs => K' (v :: vs)) hk')⟩

/-- contracts come to one outcome -/
def SplL1 (l : LCon) : Prop := ∀ env h ds (K : KE), l env h ds K → ∃ x e h' ds', K x e h' ds' ∧ h.next ≤ h'.next ∧ ∀ K' : KE, K' x e h' ds' → l env h ds K'
structure SplCon (C : Cfg) : Prop where
  con : ∀ f c, C.con f = some c → ∀ args h ds, Spl h (fun K => c args h ds K)
  lc : ∀ f k l, C.lc f k = some l → SplL1 l
def SplCode (X : XCode) : Prop := ∀ f code mask n env h ds (K : KE), X f code mask n env h ds K → ∃ x e h' ds', K x e h' ds' ∧ h.next ≤ h'.next ∧ ∀ K' : KE, K' x e h' ds' → X f code mask n env h ds K'
theorem xfun_spl {C : Cfg} (hC : SplCon C) {X : XCode} (hX : SplCode X) : SplCall (xfun C P X) := by
  intro f args h ds
  unfold xfun
  refine s_bool s_false ?_
  cases hc : C.con f with
  | some c => exact hC.con f c hc args h ds
  | none =>
    dsimp only
    cases P.funcs[f]? with
    | none => exact s_false
    | some fn =>
      dsimp only
      cases fn.body with
      | none => exact s_false
      | some b =>
        refine s_bool s_false ?_
        intro K hk
        obtain ⟨x, e, h', ds', e1, e2, e3⟩ := hX _ _ _ _ _ _ _ _ hk
        cases x <;> first
          | exact e1.elim
          | (obtain ⟨vs, a, b⟩ := xres_split e1
             exact ⟨_, h', ds', a, e2, fun K' hk' => e3 _ (b (fun vs => K' (one1 vs) h' ds') hk')⟩)
theorem xcode_spl {C : Cfg} (hC : SplCon C) : ∀ fuel, SplCode (xcode C P fuel)
  | 0 => fun f code mask n env h ds K hk => hk.elim
  | fuel + 1 => by
    have ih := xcode_spl hC fuel
    have hcall := xfun_spl (P := P) hC ih
    have here : ∀ {x : XE} {env : Env} {h : H} {ds : List Bool} {K : KE} {F : KE → Prop}, (∀ K, F K = K x env h ds) → F K → ∃ x e h' ds', K x e h' ds' ∧ h.next ≤ h'.next ∧ ∀ K' : KE, K' x e h' ds' → F K' :=
      fun hF hk => ⟨_, _, _, _, by rw [hF] at hk; exact hk, Nat.le_refl _, fun K' hk' => by rw [hF]; exact hk'⟩
    intro f code mask n env h ds K hk
    cases code with
    | skip => exact here (F := fun K => xcode C P (fuel + 1) f .skip mask n env h ds K) (fun _ => rfl) hk
    | label l => exact here (F := fun K => xcode C P (fuel + 1) f (.label l) mask n env h ds K) (fun _ => rfl) hk
    | exit id => exact here (F := fun K => xcode C P (fuel + 1) f (.exit id) mask n env h ds K) (fun _ => rfl) hk
    | goto l => exact here (F := fun K => xcode C P (fuel + 1) f (.goto l) mask n env h ds K) (fun _ => rfl) hk
    | ret => exact here (F := fun K => xcode C P (fuel + 1) f .ret mask n env h ds K) (fun _ => rfl) hk
    | rangeFunc => exact hk.elim
    | scope => exact hk.elim
    | refuse => exact hk.elim
    | region id ops draw =>
      cases draw with
      | false =>
        obtain ⟨loc, h', ds', e1, e2, e3⟩ := xops_spl hcall ops.toList [] h ds _ hk
        exact ⟨_, _, h', ds', e1, e2, fun K' hk' => e3 (fun loc h ds => K' .nrm (flush mask loc env) h ds) hk'⟩
      | true =>
        obtain ⟨loc, h', ds', e1, e2, e3⟩ := xdraw_spl hcall _ hk
        exact ⟨_, _, h', ds', e1, e2, fun K' hk' => e3 (fun loc h ds => K' .nrm (flush mask loc env) h ds) hk'⟩
    | seq a b =>
      obtain ⟨x, e, h', ds', e1, e2, e3⟩ := ih _ _ _ _ _ _ _ _ hk
      cases x with
      | nrm =>
        obtain ⟨x2, e', h2, ds2, f1, f2, f3⟩ := ih _ _ _ _ _ _ _ _ e1
        exact ⟨x2, e', h2, ds2, f1, Nat.le_trans e2 f2, fun K' hk' => e3 _ (f3 K' hk')⟩
      | ext id => exact ⟨_, e, h', ds', e1, e2, fun K' hk' => e3 _ hk'⟩
      | gto l => exact ⟨_, e, h', ds', e1, e2, fun K' hk' => e3 _ hk'⟩
      | ret => exact ⟨_, e, h', ds', e1, e2, fun K' hk' => e3 _ hk'⟩
    | cond c a b =>
      have key : ∀ K, xcode C P (fuel + 1) f (.cond c a b) mask n env h ds K = (match opd C.gl [] env c with
        | .bool t => (Bool.rec (xcode C P fuel f b mask n env h ds K) (xcode C P fuel f a mask n env h ds K) t : Prop)
        | _ => False) := fun _ => rfl
      rw [key] at hk
      cases hv : opd C.gl [] env c <;> rw [hv] at hk <;> try exact hk.elim
      rename_i t
      cases t with
      | false =>
        obtain ⟨x, e, h', ds', e1, e2, e3⟩ := ih _ _ _ _ _ _ _ _ hk
        exact ⟨x, e, h', ds', e1, e2, fun K' hk' => by rw [key, hv]; exact e3 K' hk'⟩
      | true =>
        obtain ⟨x, e, h', ds', e1, e2, e3⟩ := ih _ _ _ _ _ _ _ _ hk
        exact ⟨x, e, h', ds', e1, e2, fun K' hk' => by rw [key, hv]; exact e3 K' hk'⟩
    | block id c =>
      have key : ∀ K, xcode C P (fuel + 1) f (.block id c) mask n env h ds K = xcode C P fuel f c mask n env h ds (fun x env h ds => Bool.rec (K x env h ds) (K .nrm env h ds) (isExt x id)) := fun _ => rfl
      rw [key] at hk
      obtain ⟨x, e, h', ds', e1, e2, e3⟩ := ih _ _ _ _ _ _ _ _ hk
      cases hb : isExt x id with
      | true => rw [hb] at e1; exact ⟨_, e, h', ds', e1, e2, fun K' hk' => by rw [key]; exact e3 _ (by rw [hb]; exact hk')⟩
      | false => rw [hb] at e1; exact ⟨_, e, h', ds', e1, e2, fun K' hk' => by rw [key]; exact e3 _ (by rw [hb]; exact hk')⟩
    | loop c =>
      have key : ∀ K, xcode C P (fuel + 1) f (.loop c) mask n env h ds K = (match C.lc f (fid c) with
        | some l => l env h ds K
        | none => xcode C P fuel f c mask n env h ds fun x env h ds => match x with
          | .nrm => xcode C P fuel f (.loop c) mask n env h ds K
          | x => K x env h ds) := fun _ => rfl
      rw [key] at hk
      simp only [key]
      cases hl : C.lc f (fid c) with
      | some l => rw [hl] at hk; exact hC.lc f _ l hl env h ds K hk
      | none =>
      rw [hl] at hk
      dsimp only at hk ⊢
      obtain ⟨x, e, h', ds', e1, e2, e3⟩ := ih _ _ _ _ _ _ _ _ hk
      cases x with
      | nrm =>
        obtain ⟨x2, e', h2, ds2, f1, f2, f3⟩ := ih _ _ _ _ _ _ _ _ e1
        exact ⟨x2, e', h2, ds2, f1, Nat.le_trans e2 f2, fun K' hk' => e3 _ (f3 K' hk')⟩
      | ext id => exact ⟨_, e, h', ds', e1, e2, fun K' hk' => e3 _ hk'⟩
      | gto l => exact ⟨_, e, h', ds', e1, e2, fun K' hk' => e3 _ hk'⟩
      | ret => exact ⟨_, e, h', ds', e1, e2, fun K' hk' => e3 _ hk'⟩
end
end
end Go.X
/- Regions in the order of the text: the executor's are the model's. -/
set_option autoImplicit false
namespace Go.X
noncomputable section
section
variable {P : Program} {gl : Glob}

def RL (L : LM) (loc : Lo) (env : Env) (a : Act) : Prop := ∀ t, RV L (look loc env t) (a.tmps.getD t undef)
structure RE' (L : LM) (mask : Nat) (env : Env) (a : Act) : Prop where
  get : ∀ t v, T.get env t = some v → RV L v (a.tmps.getD t undef)
  bits : ∀ t v, T.get env t = some v → bit mask t = true

theorem look_nil (env : Env) (t : Nat) : look [] env t = eget env t := rfl
theorem look_cons (d : Nat) (v : AV) (loc : Lo) (env : Env) (t : Nat) : look ((d, v) :: loc) env t = if d = t then v else look loc env t := by
  show (Bool.rec (look loc env t) v (Nat.beq d t) : AV) = _
  by_cases h : d = t
  · rw [if_pos h, natBeq_iff.2 h]
  · rw [if_neg h]
    cases hb : Nat.beq d t with
    | true => exact absurd (Nat.eq_of_beq_eq_true hb) h
    | false => rfl
theorem eget_rel {L : LM} {mask : Nat} {env : Env} {a : Act} (r : RE' L mask env a) (t : Nat) : RV L (eget env t) (a.tmps.getD t undef) := by
  unfold eget
  cases h : T.get env t with
  | none => exact .any _
  | some v => exact r.get t v h
theorem RE'.loc {L : LM} {mask : Nat} {env : Env} {a : Act} (r : RE' L mask env a) : RL L [] env a := fun t => eget_rel r t
theorem RE'.mono {L L' : LM} (x : Ext L L') {mask : Nat} {env : Env} {a : Act} (r : RE' L mask env a) : RE' L' mask env a :=
  ⟨fun t v h => (r.get t v h).mono x, r.bits⟩
theorem RL.mono {L L' : LM} (x : Ext L L') {loc : Lo} {env : Env} {a : Act} (r : RL L loc env a) : RL L' loc env a := fun t => (r t).mono x
theorem getD_put (a : Act) (d : Nat) (v : Value) (t : Nat) (hd : d < a.tmps.size) : (a.put (some d) v).tmps.getD t undef = if d = t then v else a.tmps.getD t undef := by
  simp only [Act.put, Array.getD_eq_getD_getElem?, Array.getElem?_setIfInBounds]
  by_cases h : d = t
  · subst h; simp [hd]
  · simp [h]
theorem putL_sound {n : Nat} {dst : Option Nat} {v : AV} {v' : Value} {loc : Lo} {K : Lo → Prop} (hk : putL n dst v loc K) {L : LM} {env : Env} {a : Act} (hn : a.tmps.size = n)
    (r : RL L loc env a) (hv : RV L v v') : ∃ loc', K loc' ∧ RL L loc' env (a.put dst v') ∧ (a.put dst v').tmps.size = n ∧ (a.put dst v').defers = a.defers := by
  unfold putL at hk
  cases dst with
  | none => exact ⟨loc, hk, r, hn, rfl⟩
  | some d =>
    have hk : (Bool.rec False (K ((d, v) :: loc)) (Nat.ble (Nat.succ d) n) : Prop) := hk
    cases hb : Nat.ble (Nat.succ d) n with
    | false => rw [hb] at hk; exact hk.elim
    | true =>
      rw [hb] at hk
      have hd : d < a.tmps.size := by rw [hn]; exact Nat.le_of_ble_eq_true hb
      refine ⟨_, hk, fun t => ?_, by simp [Act.put, hn], rfl⟩
      rw [getD_put a d v' t hd, look_cons]
      by_cases h : d = t
      · rw [if_pos h, if_pos h]; exact hv
      · rw [if_neg h, if_neg h]; exact r t
/-- the globals are where they are said to be -/
def RG (L : LM) (gl : Glob) : Prop := ∀ g i, gl g = some i → ∃ E, L i = some ⟨g, 0, E⟩
theorem RG.mono {L L' : LM} (x : Ext L L') (r : RG L gl) : RG L' gl := fun g i h => let ⟨E, e⟩ := r g i h; ⟨E, x _ _ e⟩
theorem gl_rel {L : LM} (rg : RG L gl) (loc : Lo) (env : Env) (a : Act) (g : Nat) : RV L (opd gl loc env (.global g)) (a.eval (.global g)) := by
  show RV L (match gl g with | some i => .ptr i 0 | none => .any) (.pointer (some ⟨g, 0, none⟩))
  cases h : gl g with
  | none => exact .any _
  | some i => obtain ⟨E, e⟩ := rg g i h; exact .ptr i 0 _ e
theorem opd_rel {L : LM} (rg : RG L gl) {loc : Lo} {env : Env} {a : Act} (r : RL L loc env a) (x : Operand) : RV L (opd gl loc env x) (a.eval x) := by
  cases x with
  | tmp t => exact r t
  | const v => exact rv_ofV L v
  | global g => exact gl_rel rg loc env a g
  | func f => exact .fn (.func f) [] [] #[] #[] .nil .nil

/-- what a call of a function comes to -/
def CallOK (P : Program) (gl : Glob) (f : Nat) (args : List AV) (h : H) (KV : AV → H → List Bool → Prop) : Prop :=
  ∀ (L : LM) (w : World) (args' : Array Value) (U : Nat), RG L gl → RVs L args args'.toList → RH L h w U → (∀ v h' ds', KV v h' ds' → h'.next ≤ U) →
    Calls P f args' w fun e w' => ∃ v h' ds' L' v', e = .returned v' ∧ KV v h' ds' ∧ RV L' v v' ∧ RH L' h' w' U ∧ Step L L' h h' w w'
def CallsOK (P : Program) (gl : Glob) (call : XCall) : Prop := ∀ f args h ds KV, call f args h ds KV → enterable P f = true ∧ CallOK P gl f args h KV

theorem run_enter {f : Nat} (h : enterable P f = true) (args : Array Value) (w : World) : (callFunc f args).run P w = .ok (.enter f args) w := by
  unfold enterable at h
  split at h
  · rename_i fn hf
    split at h
    · rename_i b hb
      have hn : ¬ (fn.name = "runtime.NumGoroutine") := by simpa using h
      simp [callFunc, hf, hn, hb]
    · cases h
  · cases h

theorem wants_sound {all : List Oper} {ops : Array Oper} (hall : ops.toList = all) {loc : Lo} {env : Env} {g : Option (Nat × Bool)} {K : Bool → Prop} (hk : wants all loc env g K)
    {L : LM} {a : Act} (r : RL L loc env a) {o : Oper} (ho : o.guard = g) : ∃ b, K b ∧ Region.wanted o (yielded ops a.tmps) = b := by
  unfold wants at hk
  unfold Region.wanted
  rw [ho]
  split at hk
  · exact ⟨true, hk, rfl⟩
  · rename_i j want
    split at hk <;> try exact hk.elim
    rename_i oj hj
    rw [lget_eq, ← hall] at hj
    have hj : ops[j]? = some oj := by simpa using hj
    split at hk <;> try exact hk.elim
    rename_i d hd
    have hr := r d
    have hy : ∀ v, a.tmps.getD d undef = v → yielded ops a.tmps j = (match v with | .bool b => some b | _ => none) ∨ (a.tmps[d]? = none) := by
      intro v hv
      cases ht : a.tmps[d]? with
      | none => exact .inr rfl
      | some u =>
        left
        have : a.tmps.getD d undef = u := by simp [Array.getD_eq_getD_getElem?, ht]
        rw [this] at hv; subst hv
        simp [yielded, hj, hd, ht]
        cases u <;> rfl
    split at hk <;> try exact hk.elim
    · rename_i b hb
      rw [hb] at hr
      refine ⟨_, hk, ?_⟩
      generalize hg : a.tmps.getD d undef = v at hr
      cases hr
      rcases hy _ hg with e | e
      · show (yielded ops a.tmps j == some want) = _
        rw [e]; cases b <;> cases want <;> rfl
      · simp [Array.getD_eq_getD_getElem?, e, undef] at hg
    · rename_i vs hb
      rw [hb] at hr
      refine ⟨_, hk, ?_⟩
      generalize hg : a.tmps.getD d undef = v at hr
      cases hr
      rcases hy _ hg with e | e
      · show (yielded ops a.tmps j == some want) = _
        rw [e]; rfl
      · simp [yielded, hj, hd, e]

theorem xact_sound {m : Bool} {call : XCall} (hc : CallsOK P gl call) {ρ : Operand → AV} {o : Oper} {h : H} {ds : List Bool} {K : KV} (hk : xact m P call ρ o.op h ds K)
    {L : LM} {a : Act} {w : World} {U : Nat} (hU : ∀ v h' ds', K v h' ds' → h'.next ≤ U) (rg : RG L gl) (hρ : ∀ x, RV L (ρ x) (a.eval x)) (r : RH L h w U) {next : Act → World → Prop} {Q : Exit → Act → World → Prop}
    (hnext : ∀ v h' ds' L' v' w', K v h' ds' → RV L' v v' → RH L' h' w' U → Step L L' h h' w w' → next (a.put o.dst v') w') : o.wp P a w next Q := by
  have plain : xop m P ρ o.op h ds K → o.wp P a w next Q := by
    intro hk
    obtain ⟨v, h', ds', L', v', w', a1, a2, a3, a4, a5⟩ := xop_sound r hU hρ o hk
    unfold Oper.wp
    rcases a2 with e | ⟨e, rfl⟩
    · rw [e]; exact hnext v h' ds' L' v' w' a1 a3 a4 a5
    · rw [e]; exact hnext v h' ds' L' undef w' a1 a3 a4 a5
  unfold xact at hk
  split at hk
  · rename_i c hop
    split at hk
    · rename_i f hf
      split at hk <;> try exact hk.elim
      rename_i g first cap hfv
      obtain ⟨hen, hcall⟩ := hc _ _ _ _ _ hk
      have hfr := hρ f
      rw [hfv] at hfr
      generalize hfe : a.eval f = fv at hfr
      cases hfr with
      | fn _ _ _ xs ys h1 h2 =>
        have hrun : (execOp a.eval o).run P w = .ok (.enter g ((xs ++ c.args.map a.eval) ++ ys)) w := by
          simp [execOp, hop, resolve, hf, hfe, Deferred.ofValue, invoke, run_enter hen]
        have hargs : RVs L (lapp first (lapp (lmap ρ c.args.toList) cap)) ((xs ++ c.args.map a.eval) ++ ys).toList := by
          rw [lapp_eq, lapp_eq, lmap_eq, ← List.append_assoc]
          simpa using (h1.append (rvs_map hρ c.args.toList)).append h2
        unfold Oper.wp
        rw [hrun]
        refine (hcall L w _ U rg hargs r hU).mono ?_
        rintro e w' ⟨v, h', ds', L', v', rfl, k1, k2, k3, k4⟩
        exact hnext v h' ds' L' v' w' k1 k2 k3 k4
    · rw [← hop] at hk; exact plain hk
  · exact plain hk

theorem xops_sound {m : Bool} {call : XCall} (hc : CallsOK P gl call) (hs : SplCall call) {n : Nat} {env : Env} {ops : Array Oper} {K : Lo → H → List Bool → Prop} {Q : Exit → Act → World → Prop} {L0 : LM} {h0 : H} {w0 : World} {D : List Deferred} {U : Nat} (hU : ∀ loc h ds, K loc h ds → h.next ≤ U)
    (hQ : ∀ loc h ds L a w, K loc h ds → RL L loc env a → a.tmps.size = n → a.defers = D → RH L h w U → Step L0 L h0 h w0 w → Q .normal a w) :
    ∀ (rest pre : List Oper) (loc : Lo) (h : H) (ds : List Bool), ops.toList = pre ++ rest → xops m P gl call n env ops.toList rest loc h ds K →
      ∀ (L : LM) (a : Act) (w : World), RG L gl → RL L loc env a → a.tmps.size = n → a.defers = D → RH L h w U → Step L0 L h0 h w0 w → wpOps P ops Q (List.range' pre.length rest.length) a w
  | [], pre, loc, h, ds, hall, hk, L, a, w, rg, hl, hn, hd, r, s => hQ _ _ _ _ _ _ hk hl hn hd r s
  | o :: rest, pre, loc, h, ds, hall, hk, L, a, w, rg, hl, hn, hd, r, s => by
    have hget : ops[pre.length]? = some o := by
      have : ops.toList[pre.length]? = some o := by rw [hall]; simp
      simpa using this
    have hk : wants ops.toList loc env o.guard (fun b => Bool.rec
      (putL n o.dst (.tup []) loc fun loc => xops m P gl call n env ops.toList rest loc h ds K)
      (xact m P call (opd gl loc env) o.op h ds fun v h ds => putL n o.dst v loc fun loc => xops m P gl call n env ops.toList rest loc h ds K) b) := hk
    obtain ⟨b, hk, hw⟩ := wants_sound rfl hk hl rfl
    have ih := xops_sound (m := m) (ops := ops) hc hs (L0 := L0) (h0 := h0) (w0 := w0) (D := D) hU hQ rest (pre ++ [o])
    have hall' : ops.toList = (pre ++ [o]) ++ rest := by rw [hall]; simp
    have hlen : (pre ++ [o]).length = pre.length + 1 := by simp
    show wpOps P ops Q (List.range' pre.length (rest.length + 1)) a w
    rw [List.range'_succ]
    simp only [wpOps, hget, hw]
    cases b with
    | false =>
      simp only [Bool.false_eq_true, if_false]
      obtain ⟨loc', k1, k2, k3, k4⟩ := putL_sound hk hn hl (v' := undef) (.tup [] #[] .nil)
      have := ih loc' h ds hall' k1 L _ w rg k2 k3 (k4.trans hd) r s
      rwa [hlen] at this
    | true =>
      simp only [if_true]
      left
      refine xact_sound hc hk (U := U) (fun v h' ds' hk' => ?_) rg (fun x => opd_rel rg hl x) r ?_
      · obtain ⟨loc', k1, _, _, _⟩ := putL_split hk'
        obtain ⟨loc2, h2, ds2, k2, k3, _⟩ := xops_spl hs rest loc' h' ds' K k1
        exact Nat.le_trans k3 (hU _ _ _ k2)
      intro v h' ds' L' v' w' q1 q2 q3 q4
      obtain ⟨loc', k1, k2, k3, k4⟩ := putL_sound q1 hn (hl.mono q4.ext) q2
      have := ih loc' h' ds' hall' k1 L' _ w' (rg.mono q4.ext) k2 k3 (k4.trans hd) q3 (s.trans q4)
      rwa [hlen] at this
theorem flush_rel {mask : Nat} : ∀ {loc : Lo} {env : Env}, (∀ t v, T.get env t = some v → bit mask t = true) → ∀ t v, T.get (flush mask loc env) t = some v → v = look loc env t ∧ bit mask t = true
  | [], env, hb, t, v, h => ⟨by rw [look_nil]; unfold eget; have h : T.get env t = some v := h; rw [h], hb t v h⟩
  | (d, u) :: loc, env, hb, t, v, h => by
    have h : T.get (Bool.rec (flush mask loc env) (T.set (flush mask loc env) u d) (bit mask d)) t = some v := h
    rw [look_cons]
    cases hm : bit mask d with
    | true =>
      rw [hm] at h
      rcases T.get_set h with ⟨rfl, rfl⟩ | ⟨hne, h⟩
      · exact ⟨by rw [if_pos rfl], hm⟩
      · obtain ⟨a, b⟩ := flush_rel hb t v h
        exact ⟨by rw [if_neg (Ne.symm hne)]; exact a, b⟩
    | false =>
      rw [hm] at h
      obtain ⟨a, b⟩ := flush_rel hb t v h
      exact ⟨by rw [if_neg (fun e => by rw [e, b] at hm; cases hm)]; exact a, b⟩
end
end
end Go.X
/- Code and calls: the executor's are the model's. -/
set_option autoImplicit false
namespace Go.X
noncomputable section
section
variable {P : Program} {gl : Glob}

/-- a region that draws its order -/
def DrawOK (P : Program) (gl : Glob) (m : Bool) : Prop := ∀ {call : XCall}, CallsOK P gl call → SplCall call → ∀ {n : Nat} {env : Env} {id : Nat} {ops : Array Oper} {h : H} {ds : List Bool}
  {K : Lo → H → List Bool → Prop} {Q : Exit → Act → World → Prop} {D : List Deferred} {U : Nat} {L : LM} {a : Act} {w : World},
  xdraw m P gl call n env ops.toList h ds K → (∀ loc h ds, K loc h ds → h.next ≤ U) → RG L gl → RL L [] env a → a.tmps.size = n → a.defers = D → RH L h w U →
  (∀ loc h' ds' L' a' w', K loc h' ds' → RL L' loc env a' → a'.tmps.size = n → a'.defers = D → RH L' h' w' U → Step L L' h h' w w' → Q .normal a' w') →
  (Code.region id ops true).wp P Q a w

def XE.exit (x : XE) : Exit := match x with
  | .nrm => .normal
  | .ext i => .exit i
  | .gto i => .goto i
  | .ret => .ret

/-- what a run of code comes to -/
def CPost (K : KE) (U : Nat) (L : LM) (h : H) (w : World) (mask n : Nat) (e : Exit) (a' : Act) (w' : World) : Prop :=
  ∃ x env' h' ds' L', e = XE.exit x ∧ K x env' h' ds' ∧ RE' L' mask env' a' ∧ a'.tmps.size = n ∧ a'.defers = [] ∧ RH L' h' w' U ∧ Step L L' h h' w w'
/-- a piece of a code -/
inductive Inc (b : Code) : Code → Prop where
  | here : Inc b b
  | seql {x y : Code} (h : Inc b (.seq x y)) : Inc b x
  | seqr {x y : Code} (h : Inc b (.seq x y)) : Inc b y
  | condl {c : Operand} {x y : Code} (h : Inc b (.cond c x y)) : Inc b x
  | condr {c : Operand} {x y : Code} (h : Inc b (.cond c x y)) : Inc b y
  | block {id : Nat} {x : Code} (h : Inc b (.block id x)) : Inc b x
  | loop {x : Code} (h : Inc b (.loop x)) : Inc b x
/-- a piece of a function's body -/
def Sub (C : Cfg) (P : Program) (f : Nat) (c : Code) (mask n : Nat) : Prop := ∃ fn b, P.funcs[f]? = some fn ∧ fn.body = some b ∧ mask = C.mask f ∧ n = fn.ntmps ∧ Inc b c
theorem Sub.map {C : Cfg} {f : Nat} {c c' : Code} {mask n : Nat} (s : Sub C P f c mask n) (h : ∀ b, Inc b c → Inc b c') : Sub C P f c' mask n :=
  let ⟨fn, b, h1, h2, h3, h4, h5⟩ := s
  ⟨fn, b, h1, h2, h3, h4, h b h5⟩
def CodeOK (C : Cfg) (P : Program) (gl : Glob) (X : XCode) : Prop := ∀ f code mask n env h ds (K : KE), Sub C P f code mask n → X f code mask n env h ds K → ∀ (L : LM) (a : Act) (w : World) (U : Nat),
  (∀ x e h' ds', K x e h' ds' → h'.next ≤ U) → RG L gl → RE' L mask env a → a.tmps.size = n → a.defers = [] → RH L h w U → code.wp P (CPost K U L h w mask n) a w

/-- a loop that has entered a round -/
def LoopWp (P : Program) (c : Code) (Q : Exit → Act → World → Prop) (a : Act) (w : World) : Prop := ∀ (b : Frame) (k : List Item) (cs : List Frame),
  ∃ e a' w', Q e a' w' ∧ Arrives P (lone (b.at a (.code c :: .inLoop c :: k)) cs w) b k cs e a' w'
theorem LoopWp.wp {c : Code} {Q : Exit → Act → World → Prop} {a : Act} {w : World} (h : LoopWp P c Q a w) : (Code.loop c).wp P Q a w := fun b k cs =>
  let ⟨e, a', w', q, r⟩ := h b k cs
  ⟨e, a', w', q, .of_steps (.one step_loop) r⟩
theorem LoopWp.round {c : Code} {Q : Exit → Act → World → Prop} {a : Act} {w : World} (h : c.wp P (Exit.then (LoopWp P c Q) Q) a w) : LoopWp P c Q a w := by
  intro b k cs
  obtain ⟨e, a₁, w₁, hq, harr⟩ := h b (.inLoop c :: k) cs
  cases e with
  | normal =>
    obtain ⟨e₂, a₂, w₂, hq₂, harr₂⟩ := hq b k cs
    exact ⟨e₂, a₂, w₂, hq₂, .of_steps (Steps.trans harr (.one step_inLoop)) harr₂⟩
  | exit id => exact ⟨_, a₁, w₁, hq, .pass (x := .inLoop c) rfl (fun _ _ => .inl (by simp)) harr⟩
  | goto l => exact ⟨_, a₁, w₁, hq, .pass (x := .inLoop c) rfl (fun _ _ => .inl (by simp)) harr⟩
  | ret => exact ⟨_, a₁, w₁, hq, .pass (x := .inLoop c) rfl (fun _ _ => .inl (by simp)) harr⟩
  | panic ch => exact ⟨_, a₁, w₁, hq, .pass (x := .inLoop c) rfl (fun _ _ => .inl (by simp)) harr⟩
  | outgrown => exact ⟨_, a₁, w₁, hq, .pass (x := .inLoop c) rfl (fun _ _ => .inl (by simp)) harr⟩
theorem LoopWp.mono {c : Code} {Q Q' : Exit → Act → World → Prop} {a : Act} {w : World} (h : LoopWp P c Q a w) (hq : ∀ e a w, Q e a w → Q' e a w) : LoopWp P c Q' a w := fun b k cs =>
  let ⟨e, a', w', q, r⟩ := h b k cs
  ⟨e, a', w', hq _ _ _ q, r⟩

theorem CPost.here {K : KE} {U : Nat} {L : LM} {h : H} {w : World} {mask n : Nat} {x : XE} {env : Env} {ds : List Bool} {a : Act} (hk : K x env h ds) (r : RE' L mask env a) (hn : a.tmps.size = n) (hd : a.defers = [])
    (rh : RH L h w U) : CPost K U L h w mask n (XE.exit x) a w := ⟨x, env, h, ds, L, rfl, hk, r, hn, hd, rh, Step.refl L h w⟩
theorem CPost.lift {K K' : KE} {U : Nat} {L L' : LM} {h h' : H} {w w' : World} {mask n : Nat} {e : Exit} {a : Act} {w2 : World} (s : Step L L' h h' w w') (hK : ∀ x e h ds, K x e h ds → K' x e h ds)
    (c : CPost K U L' h' w' mask n e a w2) : CPost K' U L h w mask n e a w2 := by
  obtain ⟨x, env, h2, ds, L2, a1, a2, a3, a4, a5, a6, a7⟩ := c
  exact ⟨x, env, h2, ds, L2, a1, hK _ _ _ _ a2, a3, a4, a5, a6, s.trans a7⟩

theorem get_argEnv {mask : Nat} : ∀ {args : List AV} {k t : Nat} {v : AV},
    T.get (List.rec (motive := fun _ => Nat → Env) (fun _ => T.leaf) (fun a _ ih k => Bool.rec (ih (Nat.succ k)) (T.set (ih (Nat.succ k)) a k) (bit mask k)) args k) t = some v →
    ∃ j, t = k + j ∧ args[j]? = some v ∧ bit mask t = true
  | [], k, t, v, h => by cases t <;> cases h
  | a :: args, k, t, v, h => by
    dsimp only at h
    cases hb : bit mask k with
    | false =>
      rw [hb] at h
      obtain ⟨j, e1, e2, e3⟩ := get_argEnv (args := args) h
      exact ⟨j + 1, by omega, by simpa using e2, e3⟩
    | true =>
      rw [hb] at h
      rcases T.get_set h with ⟨rfl, rfl⟩ | ⟨_, h⟩
      · exact ⟨0, rfl, rfl, hb⟩
      · obtain ⟨j, e1, e2, e3⟩ := get_argEnv (args := args) h
        exact ⟨j + 1, by omega, by simpa using e2, e3⟩

def resF (tmps : Array Value) (r : ResultVar) : Sem Value := match r with
  | .tmp t => pure (tmps.getD t undef)
  | .cell a t => do loadVar t (← asAddr (tmps.getD a undef))
theorem results_eq (fn : Func) (tmps : Array Value) : results fn tmps = (do
    let vs ← fn.results.mapM (resF tmps)
    pure (if h : vs.size = 1 then vs[0] else .tuple vs)) := rfl
theorem resF_cell {tmps : Array Value} {x : Nat} {t : TypeId} {v' : Value} {w : World} (b2 : (Instr.loadAt t (tmps.getD x undef)).run P w = .ok v' w) : (resF tmps (.cell x t)).run P w = .ok v' w := by
  unfold resF
  dsimp only
  generalize tmps.getD x undef = y at b2 ⊢
  cases y with
  | pointer o => cases o with
    | none => simp [Instr.loadAt, Instr.sureAddr, stuck] at b2
    | some y => rw [← b2]; simp [Instr.loadAt, Instr.sureAddr, asAddr]
  | _ => simp [Instr.loadAt, Instr.sureAddr, stuck] at b2
theorem xres_list {m : Bool} {L : LM} {h : H} {w : World} {U : Nat} (rh : RH L h w U) {mask : Nat} {env : Env} {a : Act} (r : RE' L mask env a) {ds : List Bool} : ∀ {rs : List ResultVar} {K : List AV → Prop},
    xres m P env h ds rs K → ∃ vs vs', K vs ∧ RVs L vs vs' ∧ (rs.mapM (resF a.tmps)).run P w = .ok vs' w
  | [], K, hk => ⟨[], [], hk, .nil, by simp⟩
  | res :: rs, K, hk => by
    cases res with
    | tmp t =>
      have hk : xres m P env h ds rs (fun vs => K (eget env t :: vs)) := hk
      obtain ⟨vs, vs', a1, a2, a3⟩ := xres_list rh r hk
      refine ⟨_, _, a1, .cons _ _ _ _ (eget_rel r t) a2, ?_⟩
      have : (resF a.tmps (.tmp t)).run P w = .ok (a.tmps.getD t undef) w := rfl
      simp [List.mapM_cons, a3, this]
    | cell x t =>
      have hk : xload m P t (eget env x) h ds (fun v _ _ => xres m P env h ds rs fun vs => K (v :: vs)) := hk
      obtain ⟨v, ds', v', b1, b2, b3⟩ := xload_ro rh (eget_rel r x) hk
      obtain ⟨vs, vs', a1, a2, a3⟩ := xres_list rh r b1
      refine ⟨_, _, a1, .cons _ _ _ _ b3 a2, ?_⟩
      simp [List.mapM_cons, a3, resF_cell b2]
theorem xres_sound {m : Bool} {L : LM} {h : H} {w : World} {U : Nat} (rh : RH L h w U) {mask : Nat} {env : Env} {a : Act} (r : RE' L mask env a) {ds : List Bool} {fn : Func} {K : AV → Prop}
    (hk : xres m P env h ds fn.results.toList fun vs => K (one1 vs)) : ∃ v v', K v ∧ RV L v v' ∧ (results fn a.tmps).run P w = .ok v' w := by
  obtain ⟨vs, vs', a1, a2, a3⟩ := xres_list rh r hk
  rw [results_eq]
  have a3 : (fn.results.mapM (resF a.tmps)).run P w = .ok vs'.toArray w := by
    rw [Array.mapM_eq_mapM_toList]; simp [a3]
  cases a2 with
  | nil => exact ⟨_, _, a1, .tup [] #[] .nil, by simp [a3]⟩
  | cons x y xs ys hx hxs =>
    cases hxs with
    | nil => exact ⟨_, _, a1, hx, by simp [a3]⟩
    | cons x2 y2 xs ys hx2 hxs => exact ⟨_, _, a1, .tup _ (y :: y2 :: ys).toArray (.cons _ _ _ _ hx (.cons _ _ _ _ hx2 hxs)), by simp [a3]⟩

/-- what a loop's contract says is so -/
def LoopOK (P : Program) (gl : Glob) (c : Code) (mask n : Nat) (l : LCon) : Prop := ∀ env h ds (K : KE), l env h ds K → ∀ (L : LM) (a : Act) (w : World) (U : Nat),
  (∀ x e h' ds', K x e h' ds' → h'.next ≤ U) → RG L gl → RE' L mask env a → a.tmps.size = n → a.defers = [] → RH L h w U → LoopWp P c (CPost K U L h w mask n) a w
/-- contracts are true -/
structure ConOK (C : Cfg) (P : Program) : Prop where
  con : ∀ f c, C.con f = some c → ∀ args h ds KV, c args h ds KV → CallOK P C.gl f args h KV
  lc : ∀ f k l, C.lc f k = some l → ∀ c mask n, Sub C P f (.loop c) mask n → fid c = k → LoopOK P C.gl c mask n l
theorem xfun_sound {C : Cfg} (hC : ConOK C P) {X : XCode} (hX : CodeOK C P C.gl X) : CallsOK P C.gl (xfun C P X) := by
  intro f args h ds KV hk
  unfold xfun at hk
  cases he : enterable P f with
  | false => rw [he] at hk; exact hk.elim
  | true =>
    rw [he] at hk
    refine ⟨rfl, ?_⟩
    cases hc : C.con f with
    | some c => simp only [hc] at hk; exact hC.con f c hc args h ds KV hk
    | none =>
      simp only [hc] at hk
      cases hf : P.funcs[f]? with
      | none => simp only [hf] at hk
      | some fn =>
        simp only [hf] at hk
        cases hb : fn.body with
        | none => simp only [hb] at hk
        | some b =>
          simp only [hb] at hk
          cases hl : Nat.ble (llen args) fn.ntmps with
          | false => rw [hl] at hk; exact hk.elim
          | true =>
            rw [hl] at hk
            have hl := Nat.le_of_ble_eq_true hl
            rw [llen_eq] at hl
            intro L w args' U rg hargs rh hU
            have hsz : args'.size = args.length := by have := hargs.length; simpa using this.symm
            refine calls_of_wp hf hb (wp_mono (hX _ _ _ _ _ _ _ _ ⟨fn, b, hf, hb, rfl, rfl, .here⟩ hk L _ w U ?_ rg ?_ ?_ rfl rh) ?_)
            · intro x e h' ds' hx
              cases x <;> first
                | exact hx.elim
                | (obtain ⟨vs, a, _⟩ := xres_split hx; exact hU _ _ _ a)
            · refine ⟨fun t v ht => ?_, fun t v ht => ?_⟩
              · obtain ⟨j, rfl, e2, _⟩ := get_argEnv ht
                obtain ⟨v', a, b⟩ := hargs.get e2
                have hj : j < args'.size := by have := (List.getElem?_eq_some_iff.1 a).1; simpa using this
                have a : args'[j]? = some v' := by simpa using a
                rw [Nat.zero_add, Array.getD_eq_getD_getElem?, Array.getElem?_append_left hj, a]
                exact b
              · obtain ⟨j, _, _, e3⟩ := get_argEnv ht
                exact e3
            · simp; omega
            · rintro e a' w' ⟨x, env', h', ds', L', rfl, k1, k2, k3, k4, k5, k6⟩
              cases x <;> first
                | exact k1.elim
                | (obtain ⟨v, v', q1, q2, q3⟩ := xres_sound (K := fun v => KV v h' ds') k5 k2 k1
                   exact ⟨k4, v', q3, v, h', ds', L', v', rfl, q1, q2, k5, k6⟩)

theorem xcode_both {C : Cfg} (hC : ConOK C P) (hS : SplCon C) (hD : DrawOK P C.gl C.mode) : ∀ fuel, CodeOK C P C.gl (xcode C P fuel) ∧
    ∀ f c mask n env h ds (K : KE), Sub C P f (.loop c) mask n → xcode C P fuel f (.loop c) mask n env h ds K → ∀ (L : LM) (a : Act) (w : World) (U : Nat),
      (∀ x e h' ds', K x e h' ds' → h'.next ≤ U) → RG L C.gl → RE' L mask env a → a.tmps.size = n → a.defers = [] → RH L h w U → LoopWp P c (CPost K U L h w mask n) a w
  | 0 => ⟨fun _ _ _ _ _ _ _ _ _ hk => hk.elim, fun _ _ _ _ _ _ _ _ _ hk => hk.elim⟩
  | fuel + 1 => by
    obtain ⟨ih, ihl⟩ := xcode_both hC hS hD fuel
    have isp := xcode_spl (P := P) hS fuel
    have hcall := xfun_sound hC ih
    have hcs := xfun_spl (P := P) hS isp
    have loop : ∀ f c mask n env h ds (K : KE), Sub C P f (.loop c) mask n → xcode C P (fuel + 1) f (.loop c) mask n env h ds K → ∀ (L : LM) (a : Act) (w : World) (U : Nat),
      (∀ x e h' ds', K x e h' ds' → h'.next ≤ U) → RG L C.gl → RE' L mask env a → a.tmps.size = n → a.defers = [] → RH L h w U → LoopWp P c (CPost K U L h w mask n) a w := by
      intro f c mask n env h ds K sb hk L a w U hU rg re hn hd rh
      have hk : (match C.lc f (fid c) with
        | some l => l env h ds K
        | none => xcode C P fuel f c mask n env h ds fun x env h ds => match x with
          | .nrm => xcode C P fuel f (.loop c) mask n env h ds K
          | x => K x env h ds) := hk
      cases hl : C.lc f (fid c) with
      | some l => rw [hl] at hk; exact hC.lc f _ l hl c mask n sb rfl env h ds K hk L a w U hU rg re hn hd rh
      | none =>
      rw [hl] at hk
      have hk : xcode C P fuel f c mask n env h ds (fun x env h ds => match x with
        | .nrm => xcode C P fuel f (.loop c) mask n env h ds K
        | x => K x env h ds) := hk
      refine .round (wp_mono (ih _ _ _ _ _ _ _ _ (sb.map fun _ => .loop) hk L a w U ?_ rg re hn hd rh) ?_)
      · intro x e h' ds' hx
        cases x with
        | nrm =>
          obtain ⟨x2, e2, h2, ds2, q1, q2, _⟩ := isp _ _ _ _ _ _ _ _ hx
          exact Nat.le_trans q2 (hU _ _ _ _ q1)
        | _ => exact hU _ _ _ _ hx
      · rintro e a' w' ⟨x, env', h', ds', L', rfl, k1, k2, k3, k4, k5, k6⟩
        cases x with
        | nrm => exact (ihl _ _ _ _ _ _ _ _ sb k1 L' a' w' U hU (rg.mono k6.ext) k2 k3 k4 k5).mono fun _ _ _ c => c.lift k6 fun _ _ _ _ h => h
        | ext i => exact ⟨_, env', h', ds', L', rfl, k1, k2, k3, k4, k5, k6⟩
        | gto i => exact ⟨_, env', h', ds', L', rfl, k1, k2, k3, k4, k5, k6⟩
        | ret => exact ⟨_, env', h', ds', L', rfl, k1, k2, k3, k4, k5, k6⟩
    refine ⟨?_, loop⟩
    intro f code mask n env h ds K sb hk L a w U hU rg re hn hd rh
    have reg : ∀ {loc : Lo} {h' : H} {ds' : List Bool} {L' : LM} {a' : Act} {w' : World}, K .nrm (flush mask loc env) h' ds' → RL L' loc env a' → a'.tmps.size = n → a'.defers = [] → RH L' h' w' U → Step L L' h h' w w' →
        CPost K U L h w mask n .normal a' w' := fun {loc h' ds' L' a' w'} k1 k2 k3 k4 k5 k6 =>
      ⟨.nrm, flush mask loc env, h', ds', L', rfl, k1, ⟨fun t v ht => by
        obtain ⟨rfl, _⟩ := flush_rel re.bits t v ht
        exact k2 t, fun t v ht => (flush_rel re.bits t v ht).2⟩, k3, k4, k5, k6⟩
    cases code with
    | skip => exact wp_skip (.here (x := .nrm) hk re hn hd rh)
    | label l => exact wp_label (.here (x := .nrm) hk re hn hd rh)
    | exit id => exact wp_exit (.here (x := .ext id) hk re hn hd rh)
    | goto l => exact wp_goto (.here (x := .gto l) hk re hn hd rh)
    | ret => exact wp_ret (.here (x := .ret) hk re hn hd rh)
    | rangeFunc => exact hk.elim
    | scope => exact hk.elim
    | refuse => exact hk.elim
    | region id ops draw =>
      cases draw with
      | false =>
        have hk : xops C.mode P C.gl (xfun C P (xcode C P fuel)) n env ops.toList ops.toList [] h ds (fun loc h ds => K .nrm (flush mask loc env) h ds) := hk
        refine wp_region ?_
        have := xops_sound (Q := CPost K U L h w mask n) (L0 := L) (h0 := h) (w0 := w) (D := []) (U := U) hcall hcs (fun loc h ds hk => hU _ _ _ _ hk)
          (fun loc h' ds' L' a' w' k1 k2 k3 k4 k5 k6 => reg k1 k2 k3 k4 k5 k6) ops.toList [] [] h ds rfl hk L a w rg re.loc hn hd rh (Step.refl _ _ _)
        simpa [List.range_eq_range'] using this
      | true =>
        have hk : xdraw C.mode P C.gl (xfun C P (xcode C P fuel)) n env ops.toList h ds (fun loc h ds => K .nrm (flush mask loc env) h ds) := hk
        exact hD hcall hcs hk (fun loc h ds hk => hU _ _ _ _ hk) rg re.loc hn hd rh fun loc h' ds' L' a' w' k1 k2 k3 k4 k5 k6 => reg k1 k2 k3 k4 k5 k6
    | seq x y =>
      have hk : xcode C P fuel f x mask n env h ds (fun x env h ds => match x with
        | .nrm => xcode C P fuel f y mask n env h ds K
        | x => K x env h ds) := hk
      refine wp_seq (wp_mono (ih _ _ _ _ _ _ _ _ (sb.map fun _ => .seql) hk L a w U ?_ rg re hn hd rh) ?_)
      · intro x e h' ds' hx
        cases x with
        | nrm =>
          obtain ⟨x2, e2, h2, ds2, q1, q2, _⟩ := isp _ _ _ _ _ _ _ _ hx
          exact Nat.le_trans q2 (hU _ _ _ _ q1)
        | _ => exact hU _ _ _ _ hx
      · rintro e a' w' ⟨x, env', h', ds', L', rfl, k1, k2, k3, k4, k5, k6⟩
        cases x with
        | nrm => exact wp_mono (ih _ _ _ _ _ _ _ _ (sb.map fun _ => .seqr) k1 L' a' w' U hU (rg.mono k6.ext) k2 k3 k4 k5) fun _ _ _ c => c.lift k6 fun _ _ _ _ h => h
        | ext i => exact ⟨_, env', h', ds', L', rfl, k1, k2, k3, k4, k5, k6⟩
        | gto i => exact ⟨_, env', h', ds', L', rfl, k1, k2, k3, k4, k5, k6⟩
        | ret => exact ⟨_, env', h', ds', L', rfl, k1, k2, k3, k4, k5, k6⟩
    | cond c x y =>
      have hk : (match opd C.gl [] env c with
        | .bool t => (Bool.rec (xcode C P fuel f y mask n env h ds K) (xcode C P fuel f x mask n env h ds K) t : Prop)
        | _ => False) := hk
      have hr := opd_rel rg re.loc c
      cases hv : opd C.gl [] env c <;> rw [hv] at hk <;> try exact hk.elim
      rename_i t
      rw [hv] at hr
      generalize hc : a.eval c = v at hr
      cases hr
      cases t with
      | false => exact wp_cond_false hc (ih _ _ _ _ _ _ _ _ (sb.map fun _ => .condr) hk L a w U hU rg re hn hd rh)
      | true => exact wp_cond_true hc (ih _ _ _ _ _ _ _ _ (sb.map fun _ => .condl) hk L a w U hU rg re hn hd rh)
    | block id c =>
      have hk : xcode C P fuel f c mask n env h ds (fun x env h ds => Bool.rec (K x env h ds) (K .nrm env h ds) (isExt x id)) := hk
      refine wp_block (wp_mono (ih _ _ _ _ _ _ _ _ (sb.map fun _ => .block) hk L a w U ?_ rg re hn hd rh) ?_)
      · intro x e h' ds' hx
        cases hb : isExt x id with
        | true => rw [hb] at hx; exact hU _ _ _ _ hx
        | false => rw [hb] at hx; exact hU _ _ _ _ hx
      · rintro e a' w' ⟨x, env', h', ds', L', rfl, k1, k2, k3, k4, k5, k6⟩
        cases x with
        | ext i =>
          show (if i = id then CPost K U L h w mask n .normal a' w' else CPost K U L h w mask n (.exit i) a' w')
          by_cases e : i = id
          · rw [if_pos e]
            have : isExt (.ext i) id = true := natBeq_iff.2 e
            rw [this] at k1
            exact ⟨.nrm, env', h', ds', L', rfl, k1, k2, k3, k4, k5, k6⟩
          · rw [if_neg e]
            have : isExt (.ext i) id = false := by
              cases hb : isExt (.ext i) id with
              | false => rfl
              | true => exact absurd (natBeq_iff.1 hb) e
            rw [this] at k1
            exact ⟨.ext i, env', h', ds', L', rfl, k1, k2, k3, k4, k5, k6⟩
        | nrm => exact ⟨.nrm, env', h', ds', L', rfl, k1, k2, k3, k4, k5, k6⟩
        | gto i => exact ⟨.gto i, env', h', ds', L', rfl, k1, k2, k3, k4, k5, k6⟩
        | ret => exact ⟨.ret, env', h', ds', L', rfl, k1, k2, k3, k4, k5, k6⟩
    | loop c => exact (loop f c mask n env h ds K sb hk L a w U hU rg re hn hd rh).wp
end
end
end Go.X

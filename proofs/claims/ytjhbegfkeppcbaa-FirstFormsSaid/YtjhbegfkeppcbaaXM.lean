/- The executor: regions, code, calls. -/
import Derived.Test.YtjhbegfkeppcbaaXS
set_option autoImplicit false
namespace Go.X
noncomputable section

abbrev Env := T AV
abbrev Lo := List (Nat × AV)
/-- is a bit of a number set? -/
def bit (m i : Nat) : Bool := Nat.beq (Nat.mod (Nat.shiftRight m i) 2) 1
def eget (env : Env) (t : Nat) : AV := Option.rec AV.any (fun v => v) (T.get env t)
def look (loc : Lo) (env : Env) (t : Nat) : AV := List.rec (eget env t) (fun p _ ih => Bool.rec ih p.2 (Nat.beq p.1 t)) loc
def flush (mask : Nat) (loc : Lo) (env : Env) : Env := List.rec env (fun p _ ih => Bool.rec ih (T.set ih p.2 p.1) (bit mask p.1)) loc
def opd (loc : Lo) (env : Env) (x : Operand) : AV := match x with
  | .tmp t => look loc env t
  | .const v => ofV v
  | .global _ => .any
  | .func f => .fn (.func f) [] []
abbrev XCall := Nat → List AV → H → List Bool → KV → Prop
/-- an operation that may be a call -/
def xact (m : Bool) (P : Program) (call : XCall) (ρ : Operand → AV) (op : Op) (h : H) (ds : List Bool) (K : KV) : Prop :=
  match op with
  | .call c => match c.callee with
    | .value f => match ρ f with
      | .fn (.func g) first cap => call g (lapp first (lapp (lmap ρ c.args.toList) cap)) h ds K
      | _ => False
    | _ => xop m P ρ (.call c) h ds K
  | op => xop m P ρ op h ds K
def putL (n : Nat) (dst : Option Nat) (v : AV) (loc : Lo) (K : Lo → Prop) : Prop := match dst with
  | some d => Bool.rec False (K ((d, v) :: loc)) (Nat.ble (Nat.succ d) n)
  | none => K loc
/-- does an operation run? -/
def wants (all : List Oper) (loc : Lo) (env : Env) (g : Option (Nat × Bool)) (K : Bool → Prop) : Prop := match g with
  | none => K true
  | some (j, want) => match lget all j with
    | some o => match o.dst with
      | some d => match look loc env d with
        | .bool b => K (Bool.rec (Bool.not b) b want)
        | .tup _ => K false
        | _ => False
      | none => False
    | none => False
def xops (m : Bool) (P : Program) (call : XCall) (n : Nat) (env : Env) (all ops : List Oper) (loc : Lo) (h : H) (ds : List Bool) (K : Lo → H → List Bool → Prop) : Prop :=
  List.rec (motive := fun _ => Lo → H → List Bool → Prop) K
    (fun o _ ih loc h ds => wants all loc env o.guard fun b => Bool.rec
      (putL n o.dst (.tup []) loc fun loc => ih loc h ds)
      (xact m P call (opd loc env) o.op h ds fun v h ds => putL n o.dst v loc fun loc => ih loc h ds) b) ops loc h ds

/-! Regions that draw their order: one canonical order, with every look into memory looked at again behind what acts. -/
def preds (o : Oper) : List Nat := (o.after.toList.filter fun e => Region.binds .any e).map (·.on)
def maskP (acc : List Nat) (o : Oper) : Nat := (preds o).foldl (fun s e => s ||| 2 ^ e ||| (lget acc e).getD 0) 0
def ancL : List Oper → List Nat → List Nat
  | [], acc => acc
  | o :: r, acc => ancL r (acc ++ [maskP acc o])
def an (anc : List Nat) (i j : Nat) : Bool := bit ((lget anc j).getD 0) i
def kindO (P : Program) (op : Op) : Nat := if isQ P op then 0 else if isL op then 1 else if isA op then 2 else 3
def tmpsOf (op : Op) : List Nat := op.operands.toList.filterMap fun x => match x with
  | .tmp t => some t
  | _ => none
def looks (ops : List Oper) (o : Oper) : List Nat := tmpsOf o.op ++ (match o.guard with
  | some (g, _) => match lget ops g with
    | some og => og.dst.toList
    | none => []
  | none => [])
/-- the next operation of the canonical order; done: those that are listed -/
def nextO (P : Program) (ops : List (Nat × Oper)) (anc : List Nat) (done : Nat) : Option Nat :=
  let free (x : Nat × Oper) : Bool := !bit done x.1 && (preds x.2).all fun e => bit done e
  match ops.find? fun x => free x && decide (kindO P x.2.op ≤ 1) with
  | some x => some x.1
  | none => match ops.find? fun x => !bit done x.1 && decide (kindO P x.2.op = 3) with
    | some e => if free e then some e.1 else (ops.find? fun x => free x && an anc x.1 e.1).map (·.1)
    | none => (ops.find? fun x => free x).map (·.1)
def canonF (P : Program) (ops : List (Nat × Oper)) (anc : List Nat) : Nat → Nat → List Nat → List Nat
  | 0, _, acc => acc.reverse
  | f + 1, done, acc => match nextO P ops anc done with
    | some i => canonF P ops anc f (done + 2 ^ i) (i :: acc)
    | none => acc.reverse
def canon (P : Program) (ops : List Oper) : List Nat := canonF P (ops.zipIdx.map fun x => (x.2, x.1)) (ancL ops []) ops.length 0 []
def okPair (P : Program) (ops : List Oper) (anc : List Nat) (j i : Nat) (oj oi : Oper) : Bool :=
  -- j stands ahead of i
  (an anc j i || ((match oj.dst with | some t => !(looks ops oi).contains t | none => true) &&
    (match oi.dst with | some t => !(looks ops oj).contains t | none => true) &&
    (!(kindO P oi.op == 3) || !(kindO P oj.op == 3 || kindO P oj.op == 2)) &&
    (!(kindO P oi.op == 1) || !(kindO P oj.op == 3)))) &&
  (match oi.dst with | some t => oj.dst != some t | none => true)
def okOne (P : Program) (ops : List Oper) (anc : List Nat) (bef : List (Nat × Oper)) (i : Nat) (oi : Oper) : Bool :=
  (bef.all fun x => x.1 != i && okPair P ops anc x.1 i x.2 oi) && ((preds oi).all fun e => (bef.map (·.1)).contains e) &&
  (match oi.guard with | some (g, _) => an anc g i && (bef.map (·.1)).contains g | none => true)
def okAll (P : Program) (ops : List Oper) (anc : List Nat) : List (Nat × Oper) → List (Nat × Oper) → Bool
  | _, [] => true
  | bef, x :: r => okOne P ops anc bef x.1 x.2 && okAll P ops anc (bef ++ [x]) r
def itemsOf (ops : List Oper) (pi : List Nat) : Option (List (Nat × Oper)) := pi.mapM fun i => (lget ops i).map fun o => (i, o)
/-- the canonical order of a region, if it serves -/
def planOf (P : Program) (ops : List Oper) : Option (List (Nat × Oper)) :=
  match itemsOf ops (canon P ops) with
  | some its => if okAll P ops (ancL ops []) [] its && its.length == ops.length && P.follows .mixedOrders then some its else none
  | none => none
def flatEq (a b : AV) : Bool := match a with
  | .bool x => match b with
    | .bool y => Bool.rec (Bool.not y) y x
    | _ => false
  | .int k n => match b with
    | .int k' n' => Bool.and (Nat.beq (IntKind.num k) (IntKind.num k')) (eqI n n')
    | _ => false
  | .str n v => match b with
    | .str n' v' => Bool.and (Nat.beq n n') (Nat.beq v v')
    | _ => false
  | .nilp => match b with
    | .nilp => true
    | _ => false
  | .ptr i o => match b with
    | .ptr i' o' => Bool.and (Nat.beq i i') (Nat.beq o o')
    | _ => false
  | .nils => match b with
    | .nils => true
    | _ => false
  | .slc i o l c e s => match b with
    | .slc i' o' l' c' e' s' => Bool.and (Nat.beq i i') (Bool.and (Nat.beq o o') (Bool.and (Nat.beq l l') (Bool.and (Nat.beq c c') (Bool.and (Bool.rec (Bool.not e') e' e) (Nat.beq s s')))))
    | _ => false
  | .nilm => match b with
    | .nilm => true
    | _ => false
  | .map i => match b with
    | .map i' => Nat.beq i i'
    | _ => false
  | .nilf => match b with
    | .nilf => true
    | _ => false
  | .nili => match b with
    | .nili => true
    | _ => false
  | .fn (.func f) [] [] => match b with
    | .fn (.func g) [] [] => Nat.beq f g
    | _ => false
  | _ => false
def flatEqs (as : List AV) : List AV → Bool := List.rec (motive := fun _ => List AV → Bool) (fun bs => match bs with
    | [] => true
    | _ => false) (fun a _ ih bs => match bs with
    | [] => false
    | b :: bs => Bool.and (flatEq a b) (ih bs)) as
def avEq (a b : AV) : Bool := match a with
  | .agg xs => match b with
    | .agg ys => flatEqs xs ys
    | _ => false
  | .fn (.func f) xs zs => match b with
    | .fn (.func g) ys us => Bool.and (Nat.beq f g) (Bool.and (flatEqs xs ys) (flatEqs zs us))
    | _ => false
  | a => flatEq a b
/-- is what is read now what was read? -/
def sameV (m : Bool) (u v : AV) (K : Prop) : Prop := Bool.rec (Bool.rec False K (avEq u v)) (u = v ∧ K) m
abbrev RLs := List (Nat × TypeId × AV × AV)
def again (m : Bool) (P : Program) (anc : List Nat) (i : Nat) (h : H) (ds : List Bool) (rl : RLs) (K : Prop) : Prop :=
  List.rec K (fun x _ ih => Bool.rec (xload m P x.2.1 x.2.2.1 h ds fun u _ _ => sameV m u x.2.2.2 ih) ih (an anc x.1 i)) rl
def noteL (op : Op) (i : Nat) (ρ : Operand → AV) (v : AV) (rl : RLs) : RLs := match op with
  | .load t a => (i, t, ρ a, v) :: rl
  | _ => rl
def xdr (m : Bool) (P : Program) (call : XCall) (n : Nat) (env : Env) (all : List Oper) (anc : List Nat) (its : List (Nat × Oper)) (loc : Lo) (h : H) (ds : List Bool) (rl : RLs) (K : Lo → H → List Bool → Prop) : Prop :=
  List.rec (motive := fun _ => Lo → H → List Bool → RLs → Prop) (fun loc h ds _ => K loc h ds)
    (fun x _ ih loc h ds rl => wants all loc env x.2.guard fun b => Bool.rec
      (putL n x.2.dst (.tup []) loc fun loc => ih loc h ds rl)
      (xact m P call (opd loc env) x.2.op h ds fun v h ds => putL n x.2.dst v loc fun loc' =>
        Bool.rec (ih loc' h ds (noteL x.2.op x.1 (opd loc env) v rl)) (again m P anc x.1 h ds rl (ih loc' h ds rl)) (Nat.beq (kindO P x.2.op) 3)) b) its loc h ds rl
def xdraw (m : Bool) (P : Program) (call : XCall) (n : Nat) (env : Env) (ops : List Oper) (h : H) (ds : List Bool) (K : Lo → H → List Bool → Prop) : Prop :=
  match planOf P ops with
  | some its => xdr m P call n env ops (ancL ops []) its [] h ds [] K
  | none => False

inductive XE where
  | nrm
  | ext (id : Nat)
  | gto (l : Nat)
  | ret
abbrev KE := XE → Env → H → List Bool → Prop
def isExt (x : XE) (id : Nat) : Bool := match x with
  | .ext i => Nat.beq i id
  | _ => false
def xres (m : Bool) (P : Program) (env : Env) (h : H) (ds : List Bool) (rs : List ResultVar) (K : List AV → Prop) : Prop :=
  List.rec (motive := fun _ => (List AV → Prop) → Prop) (fun K => K []) (fun r _ ih K => match r with
    | .tmp t => ih fun vs => K (eget env t :: vs)
    | .cell a t => xload m P t (eget env a) h ds fun v _ _ => ih fun vs => K (v :: vs)) rs K
def one1 (vs : List AV) : AV := match vs with
  | [v] => v
  | vs => .tup vs
def argEnv (mask : Nat) (args : List AV) : Env :=
  List.rec (motive := fun _ => Nat → Env) (fun _ => T.leaf) (fun a _ ih k => Bool.rec (ih (Nat.succ k)) (T.set (ih (Nat.succ k)) a k) (bit mask k)) args 0
/-- what the executor is given: how deep it may go, the slots of each function that it keeps, contracts -/
structure Cfg where
  mode : Bool
  mask : Nat → Nat
  con : Nat → Option (List AV → H → List Bool → KV → Prop)
abbrev XCode := Code → Nat → Nat → Env → H → List Bool → KE → Prop
def enterable (P : Program) (f : Nat) : Bool := match P.funcs[f]? with
  | some fn => match fn.body with
    | some _ => Bool.not (fn.name == "runtime.NumGoroutine")
    | none => false
  | none => false
def xfun (C : Cfg) (P : Program) (ih : XCode) (f : Nat) (args : List AV) (h : H) (ds : List Bool) (K : KV) : Prop :=
  Bool.rec False (match C.con f with
  | some c => c args h ds K
  | none => match P.funcs[f]? with
    | some fn => match fn.body with
      | some b => Bool.rec False
          (ih b (C.mask f) fn.ntmps (argEnv (C.mask f) args) h ds fun x env h ds => match x with
            | .nrm => xres C.mode P env h ds fn.results.toList fun vs => K (one1 vs) h ds
            | .ret => xres C.mode P env h ds fn.results.toList fun vs => K (one1 vs) h ds
            | _ => False)
          (Nat.ble (llen args) fn.ntmps)
      | none => False
    | none => False) (enterable P f)
def xcode (C : Cfg) (P : Program) (fuel : Nat) : XCode :=
  Nat.rec (fun _ _ _ _ _ _ _ => False) (fun _ ih code mask n env h ds K => match code with
    | .skip => K .nrm env h ds
    | .label _ => K .nrm env h ds
    | .region _ ops draw => Bool.rec (xops C.mode P (xfun C P ih) n env ops.toList ops.toList [] h ds fun loc h ds => K .nrm (flush mask loc env) h ds)
      (xdraw C.mode P (xfun C P ih) n env ops.toList h ds fun loc h ds => K .nrm (flush mask loc env) h ds) draw
    | .seq a b => ih a mask n env h ds fun x env h ds => match x with
      | .nrm => ih b mask n env h ds K
      | x => K x env h ds
    | .cond c a b => match opd [] env c with
      | .bool t => Bool.rec (ih b mask n env h ds K) (ih a mask n env h ds K) t
      | _ => False
    | .block id c => ih c mask n env h ds fun x env h ds => Bool.rec (K x env h ds) (K .nrm env h ds) (isExt x id)
    | .loop c => ih c mask n env h ds fun x env h ds => match x with
      | .nrm => ih (.loop c) mask n env h ds K
      | x => K x env h ds
    | .exit id => K (.ext id) env h ds
    | .goto l => K (.gto l) env h ds
    | .ret => K .ret env h ds
    | _ => False) fuel
end
end Go.X

/- The executor: regions, code, calls. -/
import Derived.Test.YtkfhjobebhdpoaaGreatE3
import Derived.RangeFuncLeaves
import Derived.RangeFuncIn
import Derived.RangeFuncRecord
import Derived.OrdersIn
import Derived.ChangeKeysEq
import Derived.Scope
set_option linter.unusedVariables false
set_option linter.unusedSimpArgs false
set_option autoImplicit false
namespace Go.X
noncomputable section

abbrev Env := T AV
abbrev Lo := List (Nat × AV)
def eget (env : Env) (t : Nat) : AV := Option.rec AV.any (fun v => v) (T.get env t)
def look (loc : Lo) (env : Env) (t : Nat) : AV := List.rec (eget env t) (fun p _ ih => Bool.rec ih p.2 (Nat.beq p.1 t)) loc
def flush (mask : Nat) (loc : Lo) (env : Env) : Env := List.rec env (fun p _ ih => Bool.rec ih (T.set ih p.2 p.1) (bit mask p.1)) loc
/-- which block a global is -/
abbrev Glob := Nat → Option Nat
def opd (gl : Glob) (loc : Lo) (env : Env) (x : Operand) : AV := match x with
  | .tmp t => look loc env t
  | .const v => ofV v
  | .global g => match gl g with
    | some i => .ptr i 0
    | none => .any
  | .func f => .fn (.func f) [] []
abbrev XCall := Nat → List AV → H → List Bool → KV → Prop
/-- from here on the numbers of calls are those of rounds -/
abbrev YK : Nat := 1000000
/-- a map's copy, made outside the program -/
def isClone (P : Program) (g : Nat) : Bool := match P.funcs[g]? with
  | some fn => match fn.body with
    | none => fn.name == "maps.clone" && fn.origin == ""
    | some _ => false
  | none => false
def xcl (P : Program) (call : XCall) (g : Nat) (args : List AV) (h : H) (ds : List Bool) (K : KV) : Prop := match args with
  | [.ifc t x] => match x with
    | .map i => Bool.rec (call g args h ds K) (match h.b.get i with
      | some (.map bs ck es) => K (.ifc t (.map h.next)) (hnew h (.map bs ck es)) ds
      | _ => False) (isClone P g)
    | _ => call g args h ds K
  | _ => call g args h ds K
/-- the function of a method of a type; the pointer's type, where the receiver is what the pointer points to -/
def methFn (P : Program) (t : TypeId) (name : String) : Option (FuncId × Option TypeId) := match P.info? t with
  | some i => match i.methods.find? (·.name == name) with
    | some mr => match mr.path.toList with
      | [] => match mr.func with
        | some (f, b) => match P.underlying t with
          | some (.pointer e) => some (f, Bool.rec (some e) none b)
          | _ => none
        | none => none
      | _ => none
    | none => none
  | none => none
/-- a call through an interface -/
def xinv (m : Bool) (P : Program) (call : XCall) (name : String) (r : AV) (args : List AV) (h : H) (ds : List Bool) (K : KV) : Prop := match r with
  | .ifc t x => match methFn P t name with
    | some (f, e) => Bool.rec False (match e with
      | none => call f (x :: args) h ds K
      | some e => match x with
        | .ptr i o => xload m P e (.ptr i o) h ds fun v h ds => call f (v :: args) h ds K
        | _ => False) (Nat.ble (Nat.succ f) YK)
    | none => False
  | _ => False
/-- an operation that may be a call -/
def xact (m : Bool) (P : Program) (call : XCall) (ρ : Operand → AV) (op : Op) (h : H) (ds : List Bool) (K : KV) : Prop :=
  match op with
  | .call c => match c.callee with
    | .value f => match ρ f with
      | .fn (.func g) first cap => Bool.rec False (xcl P call g (lapp first (lapp (lmap ρ c.args.toList) cap)) h ds K) (Nat.ble (Nat.succ g) YK)
      | .yld i => call (Nat.add YK i) (lmap ρ c.args.toList) h ds K
      | _ => False
    | .invoke r name => xinv m P call name (ρ r) (lmap ρ c.args.toList) h ds K
    | _ => xop m P ρ (.call c) h ds K
  | op => xop m P ρ op h ds K
def putL (n : Nat) (dst : Option Nat) (v : AV) (loc : Lo) (K : Lo → Prop) : Prop := match dst with
  | some d => Bool.rec False (K ((d, v) :: loc)) (Nat.ble (Nat.succ d) n)
  | none => K loc
/-- does an operation run? -/
def wants (all : List Oper) (loc : Lo) (env : Env) (g : Option (Nat × Bool)) (K : Bool → Prop) : Prop := match g with
  | none => K true
  | some (j, want) => match lget all j with
    | some o => match o.dst with
      | some d => match look loc env d with
        | .bool b => K (Bool.rec (Bool.not b) b want)
        | .tup _ => K false
        | _ => False
      | none => False
    | none => False
def xops (m : Bool) (P : Program) (gl : Glob) (call : XCall) (n : Nat) (env : Env) (all ops : List Oper) (loc : Lo) (h : H) (ds : List Bool) (K : Lo → H → List Bool → Prop) : Prop :=
  List.rec (motive := fun _ => Lo → H → List Bool → Prop) K
    (fun o _ ih loc h ds => wants all loc env o.guard fun b => Bool.rec
      (putL n o.dst (.tup []) loc fun loc => ih loc h ds)
      (xact m P call (opd gl loc env) o.op h ds fun v h ds => putL n o.dst v loc fun loc => ih loc h ds) b) ops loc h ds

/-! Regions that draw their order: one canonical order, with every look into memory looked at again behind what acts. -/
def preds (o : Oper) : List Nat := (o.after.toList.filter fun e => Region.binds .any e).map (·.on)
def maskP (acc : List Nat) (o : Oper) : Nat := (preds o).foldl (fun s e => s ||| 2 ^ e ||| (lget acc e).getD 0) 0
def ancL : List Oper → List Nat → List Nat
  | [], acc => acc
  | o :: r, acc => ancL r (acc ++ [maskP acc o])
def an (anc : List Nat) (i j : Nat) : Bool := bit ((lget anc j).getD 0) i
def kindO (P : Program) (op : Op) : Nat := if isQ P op then 0 else if isL op then 1 else if isA op then 2 else 3
def tmpsOf (op : Op) : List Nat := op.operands.toList.filterMap fun x => match x with
  | .tmp t => some t
  | _ => none
def looks (ops : List Oper) (o : Oper) : List Nat := tmpsOf o.op ++ (match o.guard with
  | some (g, _) => match lget ops g with
    | some og => og.dst.toList
    | none => []
  | none => [])
/-- the next operation of the canonical order; done: those that are listed -/
def nextO (P : Program) (ops : List (Nat × Oper)) (anc : List Nat) (done : Nat) : Option Nat :=
  let free (x : Nat × Oper) : Bool := !bit done x.1 && (preds x.2).all fun e => bit done e
  match ops.find? fun x => free x && decide (kindO P x.2.op ≤ 1) with
  | some x => some x.1
  | none => match ops.find? fun x => !bit done x.1 && decide (kindO P x.2.op = 3) with
    | some e => if free e then some e.1 else (ops.find? fun x => free x && an anc x.1 e.1).map (·.1)
    | none => (ops.find? fun x => free x).map (·.1)
def canonF (P : Program) (ops : List (Nat × Oper)) (anc : List Nat) : Nat → Nat → List Nat → List Nat
  | 0, _, acc => acc.reverse
  | f + 1, done, acc => match nextO P ops anc done with
    | some i => canonF P ops anc f (done + 2 ^ i) (i :: acc)
    | none => acc.reverse
def canon (P : Program) (ops : List Oper) : List Nat := canonF P (ops.zipIdx.map fun x => (x.2, x.1)) (ancL ops []) ops.length 0 []
def okPair (P : Program) (ops : List Oper) (anc : List Nat) (j i : Nat) (oj oi : Oper) : Bool :=
  -- j stands ahead of i
  (an anc j i || ((match oj.dst with | some t => !(looks ops oi).contains t | none => true) &&
    (match oi.dst with | some t => !(looks ops oj).contains t | none => true) &&
    (!(kindO P oi.op == 3) || !(kindO P oj.op == 3 || kindO P oj.op == 2)) &&
    (!(kindO P oi.op == 1) || !(kindO P oj.op == 3)))) &&
  (match oi.dst with | some t => oj.dst != some t | none => true)
def okOne (P : Program) (ops : List Oper) (anc : List Nat) (bef : List (Nat × Oper)) (i : Nat) (oi : Oper) : Bool :=
  (bef.all fun x => x.1 != i && okPair P ops anc x.1 i x.2 oi) && ((preds oi).all fun e => (bef.map (·.1)).contains e) &&
  (match oi.guard with | some (g, _) => an anc g i && (bef.map (·.1)).contains g | none => true)
def okAll (P : Program) (ops : List Oper) (anc : List Nat) : List (Nat × Oper) → List (Nat × Oper) → Bool
  | _, [] => true
  | bef, x :: r => okOne P ops anc bef x.1 x.2 && okAll P ops anc (bef ++ [x]) r
def itemsOf (ops : List Oper) (pi : List Nat) : Option (List (Nat × Oper)) := pi.mapM fun i => (lget ops i).map fun o => (i, o)
/-- the canonical order of a region, if it serves -/
def planOf (P : Program) (ops : List Oper) : Option (List (Nat × Oper)) :=
  match itemsOf ops (canon P ops) with
  | some its => if okAll P ops (ancL ops []) [] its && its.length == ops.length && P.follows .mixedOrders then some its else none
  | none => none
def flatEq (a b : AV) : Bool := match a with
  | .bool x => match b with
    | .bool y => Bool.rec (Bool.not y) y x
    | _ => false
  | .int k n => match b with
    | .int k' n' => Bool.and (Nat.beq (IntKind.num k) (IntKind.num k')) (eqI n n')
    | _ => false
  | .str n v => match b with
    | .str n' v' => Bool.and (Nat.beq n n') (Nat.beq v v')
    | _ => false
  | .nilp => match b with
    | .nilp => true
    | _ => false
  | .ptr i o => match b with
    | .ptr i' o' => Bool.and (Nat.beq i i') (Nat.beq o o')
    | _ => false
  | .nils => match b with
    | .nils => true
    | _ => false
  | .slc i o l c e s => match b with
    | .slc i' o' l' c' e' s' => Bool.and (Nat.beq i i') (Bool.and (Nat.beq o o') (Bool.and (Nat.beq l l') (Bool.and (Nat.beq c c') (Bool.and (Bool.rec (Bool.not e') e' e) (Nat.beq s s')))))
    | _ => false
  | .nilm => match b with
    | .nilm => true
    | _ => false
  | .map i => match b with
    | .map i' => Nat.beq i i'
    | _ => false
  | .nilf => match b with
    | .nilf => true
    | _ => false
  | .nili => match b with
    | .nili => true
    | _ => false
  | .fn (.func f) [] [] => match b with
    | .fn (.func g) [] [] => Nat.beq f g
    | _ => false
  | _ => false
def flatEqs (as : List AV) : List AV → Bool := List.rec (motive := fun _ => List AV → Bool) (fun bs => match bs with
    | [] => true
    | _ => false) (fun a _ ih bs => match bs with
    | [] => false
    | b :: bs => Bool.and (flatEq a b) (ih bs)) as
def avEq (a b : AV) : Bool := match a with
  | .agg xs => match b with
    | .agg ys => flatEqs xs ys
    | _ => false
  | .fn (.func f) xs zs => match b with
    | .fn (.func g) ys us => Bool.and (Nat.beq f g) (Bool.and (flatEqs xs ys) (flatEqs zs us))
    | _ => false
  | a => flatEq a b
/-- the same, but of numbers and of what holds numbers nothing is said (they may be open) -/
def avEqC (a b : AV) : Bool := match a with
  | .int _ _ => false
  | .bool _ => false
  | .agg _ => false
  | a => avEq a b
/-- is what is read now what was read? -/
def sameV (m : Bool) (u v : AV) (K : Prop) : Prop := Bool.rec (Bool.rec False K (avEq u v)) (Bool.rec (u = v ∧ K) K (avEqC u v)) m
abbrev RLs := List (Nat × LK × AV)
def again (m : Bool) (P : Program) (anc : List Nat) (i : Nat) (h : H) (ds : List Bool) (rl : RLs) (K : Prop) : Prop :=
  List.rec K (fun x _ ih => Bool.rec (xlk m P x.2.1 h ds fun u _ _ => sameV m u x.2.2 ih) ih (an anc x.1 i)) rl
def noteL (op : Op) (i : Nat) (ρ : Operand → AV) (v : AV) (rl : RLs) : RLs := match lkOf ρ op with
  | some l => (i, l, v) :: rl
  | none => rl
def xdr (m : Bool) (P : Program) (gl : Glob) (call : XCall) (n : Nat) (env : Env) (all : List Oper) (anc : List Nat) (its : List (Nat × Oper)) (loc : Lo) (h : H) (ds : List Bool) (rl : RLs) (K : Lo → H → List Bool → Prop) : Prop :=
  List.rec (motive := fun _ => Lo → H → List Bool → RLs → Prop) (fun loc h ds _ => K loc h ds)
    (fun x _ ih loc h ds rl => wants all loc env x.2.guard fun b => Bool.rec
      (putL n x.2.dst (.tup []) loc fun loc => ih loc h ds rl)
      (xact m P call (opd gl loc env) x.2.op h ds fun v h ds => putL n x.2.dst v loc fun loc' =>
        Bool.rec (ih loc' h ds (noteL x.2.op x.1 (opd gl loc env) v rl)) (again m P anc x.1 h ds rl (ih loc' h ds rl)) (Nat.beq (kindO P x.2.op) 3)) b) its loc h ds rl
def xdraw (m : Bool) (P : Program) (gl : Glob) (call : XCall) (n : Nat) (env : Env) (ops : List Oper) (h : H) (ds : List Bool) (K : Lo → H → List Bool → Prop) : Prop :=
  match planOf P ops with
  | some its => xdr m P gl call n env ops (ancL ops []) its [] h ds [] K
  | none => False

inductive XE where
  | nrm
  | ext (id : Nat)
  | gto (l : Nat)
  | ret
abbrev KE := XE → Env → H → List Bool → Prop
def isExt (x : XE) (id : Nat) : Bool := match x with
  | .ext i => Nat.beq i id
  | _ => false
def xres (m : Bool) (P : Program) (env : Env) (h : H) (ds : List Bool) (rs : List ResultVar) (K : List AV → Prop) : Prop :=
  List.rec (motive := fun _ => (List AV → Prop) → Prop) (fun K => K []) (fun r _ ih K => match r with
    | .tmp t => ih fun vs => K (eget env t :: vs)
    | .cell a t => xload m P t (eget env a) h ds fun v _ _ => ih fun vs => K (v :: vs)) rs K
def one1 (vs : List AV) : AV := match vs with
  | [v] => v
  | vs => .tup vs
def argEnv (mask : Nat) (args : List AV) : Env :=
  List.rec (motive := fun _ => Nat → Env) (fun _ => T.leaf) (fun a _ ih k => Bool.rec (ih (Nat.succ k)) (T.set (ih (Nat.succ k)) a k) (bit mask k)) args 0
/-- what the executor is given: how deep it may go, the slots of each function that it keeps, contracts -/
abbrev LCon := Env → H → List Bool → KE → Prop
/-- the name of a loop in its function: the first region in it, and how deep that lies in loops -/
def fid (c : Code) : Nat := Code.rec 0 (fun id _ _ => Nat.succ id) (fun _ _ a b => Bool.rec a b (Nat.beq a 0)) (fun _ _ _ a b => Bool.rec a b (Nat.beq a 0)) (fun _ _ a => a) (fun _ a => Nat.add 1000 a)
  (fun _ _ _ _ _ _ => 0) (fun _ => 0) (fun _ a => a) (fun _ => 0) (fun _ => 0) 0 (fun _ => 0) c
structure Cfg where
  mode : Bool
  mask : Nat → Nat
  con : Nat → Option (List AV → H → List Bool → KV → Prop)
  lc : Nat → Nat → Option LCon
  gl : Glob
abbrev XCode := Nat → Code → Nat → Nat → Env → H → List Bool → KE → Prop
def enterable (P : Program) (f : Nat) : Bool := match P.funcs[f]? with
  | some fn => match fn.body with
    | some _ => Bool.not (fn.name == "runtime.NumGoroutine")
    | none => false
  | none => false
/-- yield's arguments in a loop's parameters -/
def parEnv (mask : Nat) (ps : List Nat) : List AV → Env → Env :=
  List.rec (motive := fun _ => List AV → Env → Env) (fun _ env => env) (fun p _ ih args env => match args with
    | a :: args => ih args (Bool.rec env (T.set env a p) (bit mask p))
    | [] => env) ps
def parOK (n : Nat) (ps : List Nat) : Bool := List.rec true (fun p _ ih => Bool.and (Nat.ble (Nat.succ p) n) ih) ps
def XE.code (x : XE) : Code := match x with
  | .nrm => .skip
  | .ext i => .exit i
  | .gto l => .goto l
  | .ret => .ret
/-- one round of a range over a function: what yield does -/
def xround (ih : XCode) (i : Nat) (args : List AV) (h : H) (ds : List Bool) (K : KV) : Prop := match h.b.get i with
  | some (.loop .ready _ mask n env ps asg body) => Bool.rec False (ih YK asg mask n (parEnv mask ps args env) h ds fun x e h ds => match x with
      | .nrm => match h.b.get i with
        | some (.loop .ready j2 mask2 n2 env2 ps2 asg2 body2) => ih YK body mask n e ⟨h.b.set (.loop .busy j2 mask2 n2 env2 ps2 asg2 body2) i, h.next⟩ ds fun x _ h ds => match h.b.get i with
          | some (.loop .busy _ mask3 n3 env3 ps3 asg3 body3) => match x with
            | .nrm => K (.bool true) ⟨h.b.set (.loop .ready none mask3 n3 env3 ps3 asg3 body3) i, h.next⟩ ds
            | x => K (.bool false) ⟨h.b.set (.loop .done (some (XE.code x)) mask3 n3 env3 ps3 asg3 body3) i, h.next⟩ ds
          | _ => False
        | _ => False
      | _ => False) (Bool.and (Nat.beq (llen args) (llen ps)) (parOK n ps))
  | _ => False
def xfun (C : Cfg) (P : Program) (ih : XCode) (f : Nat) (args : List AV) (h : H) (ds : List Bool) (K : KV) : Prop :=
  Bool.rec (xround ih (Nat.sub f YK) args h ds K) (Bool.rec False (match C.con f with
  | some c => c args h ds K
  | none => match P.funcs[f]? with
    | some fn => match fn.body with
      | some b => Bool.rec False
          (ih f b (C.mask f) fn.ntmps (argEnv (C.mask f) args) h ds fun x env h ds => match x with
            | .nrm => xres C.mode P env h ds fn.results.toList fun vs => K (one1 vs) h ds
            | .ret => xres C.mode P env h ds fn.results.toList fun vs => K (one1 vs) h ds
            | _ => False)
          (Nat.ble (llen args) fn.ntmps)
      | none => False
    | none => False) (enterable P f)) (Nat.ble (Nat.succ f) YK)
/-- what is done behind a range over a function -/
def xdone (i : Nat) (env : Env) (h : H) (ds : List Bool) (K : KE) : Prop := match h.b.get i with
  | some (.loop .ready j _ _ _ _ _ _) => match j with
    | none => K .nrm env ⟨h.b.del i, h.next⟩ ds
    | some _ => False
  | some (.loop .done j _ _ _ _ _ _) => match j with
    | some .ret => K .ret env ⟨h.b.del i, h.next⟩ ds
    | some (.exit id) => K (.ext id) env ⟨h.b.del i, h.next⟩ ds
    | some (.goto l) => K (.gto l) env ⟨h.b.del i, h.next⟩ ds
    | _ => False
  | _ => False
def xcode (C : Cfg) (P : Program) (fuel : Nat) : XCode :=
  Nat.rec (fun _ _ _ _ _ _ _ _ => False) (fun _ ih f code mask n env h ds K => match code with
    | .skip => K .nrm env h ds
    | .label _ => K .nrm env h ds
    | .region _ ops draw => Bool.rec (xops C.mode P C.gl (xfun C P ih) n env ops.toList ops.toList [] h ds fun loc h ds => K .nrm (flush mask loc env) h ds)
      (xdraw C.mode P C.gl (xfun C P ih) n env ops.toList h ds fun loc h ds => K .nrm (flush mask loc env) h ds) draw
    | .seq a b => ih f a mask n env h ds fun x env h ds => match x with
      | .nrm => ih f b mask n env h ds K
      | x => K x env h ds
    | .cond c a b => match opd C.gl [] env c with
      | .bool t => Bool.rec (ih f b mask n env h ds K) (ih f a mask n env h ds K) t
      | _ => False
    | .block id c => ih f c mask n env h ds fun x env h ds => Bool.rec (K x env h ds) (K .nrm env h ds) (isExt x id)
    | .rangeFunc g ps asg body => match opd C.gl [] env g with
      | .fn (.func q) first cap => Bool.rec False (xfun C P ih q (lapp first (lapp [.yld h.next] cap)) (hnew h (.loop .ready none mask n env ps.toList asg body)) ds fun _ h2 ds => xdone h.next env h2 ds K) (Bool.and (Nat.ble (Nat.succ f) YK) (Nat.ble (Nat.succ q) YK))
      | _ => False
    | .loop c => match (Bool.rec none (C.lc f (fid c)) (Nat.ble (Nat.succ f) YK) : Option LCon) with
      | some l => l env h ds K
      | none => ih f c mask n env h ds fun x env h ds => match x with
      | .nrm => ih f (.loop c) mask n env h ds K
      | x => K x env h ds
    | .scope c => ih f c mask n env h ds fun x env h ds => match x with
      | .gto _ => False
      | x => K x env h ds
    | .exit id => K (.ext id) env h ds
    | .goto l => K (.gto l) env h ds
    | .ret => K .ret env h ds
    | _ => False) fuel
end
end Go.X
/- The executor's run in continuations is one outcome and what is done with it. -/
set_option autoImplicit false
set_option linter.unusedVariables false
namespace Go.X
noncomputable section

def SplCall (call : XCall) : Prop := ∀ f args h ds, Spl h (fun K => call f args h ds K)
/-- one outcome of a run that ends in an environment of its own -/
def SplR {α : Type} (h : H) (F : (α → H → List Bool → Prop) → Prop) : Prop := ∀ K, F K → ∃ a h' ds', K a h' ds' ∧ h.next ≤ h'.next ∧ ∀ K', K' a h' ds' → F K'
section
variable {P : Program} {m : Bool} {gl : Glob}
def putD (dst : Option Nat) (v : AV) (loc : Lo) : Lo := match dst with
  | some d => (d, v) :: loc
  | none => loc
theorem putL_split {n : Nat} {dst : Option Nat} {v : AV} {loc : Lo} {K : Lo → Prop} (hk : putL n dst v loc K) :
    ∃ loc', K loc' ∧ (∀ K' : Lo → Prop, K' loc' → putL n dst v loc K') ∧ loc' = putD dst v loc ∧ ∀ d, dst = some d → d < n := by
  unfold putL at hk ⊢
  cases dst with
  | none => exact ⟨loc, hk, fun _ h => h, rfl, fun d h => by cases h⟩
  | some d =>
    have hk : (Bool.rec False (K ((d, v) :: loc)) (Nat.ble (Nat.succ d) n) : Prop) := hk
    cases hb : Nat.ble (Nat.succ d) n with
    | false => rw [hb] at hk; exact hk.elim
    | true => rw [hb] at hk; exact ⟨_, hk, fun K' h => by show (Bool.rec False (K' ((d, v) :: loc)) (Nat.ble (Nat.succ d) n) : Prop); rw [hb]; exact h, rfl, fun d' h => by cases h; exact Nat.le_of_ble_eq_true hb⟩
theorem wants_split {all : List Oper} {loc : Lo} {env : Env} {g : Option (Nat × Bool)} {K : Bool → Prop} (hk : wants all loc env g K) :
    ∃ b, K b ∧ ∀ K' : Bool → Prop, K' b → wants all loc env g K' := by
  unfold wants at hk ⊢
  cases g with
  | none => exact ⟨true, hk, fun _ h => h⟩
  | some x =>
    obtain ⟨j, want⟩ := x
    dsimp only at hk ⊢
    cases ho : lget all j with
    | none => rw [ho] at hk; exact hk.elim
    | some o =>
      rw [ho] at hk
      dsimp only at hk ⊢
      cases hd : o.dst with
      | none => rw [hd] at hk; exact hk.elim
      | some d =>
        rw [hd] at hk
        dsimp only at hk ⊢
        cases hl : look loc env d <;> rw [hl] at hk <;> first
          | exact hk.elim
          | exact ⟨_, hk, fun _ h => h⟩
theorem xcl_spl {call : XCall} (hc : SplCall call) {g : Nat} {args : List AV} {h : H} {ds : List Bool} : Spl h (fun K => xcl P call g args h ds K) := by
  unfold xcl
  split
  · split
    · refine s_bool (hc _ _ _ _) ?_
      split
      · exact s_here _ _ (by show h.next ≤ Nat.succ h.next; omega)
      · exact s_false
    · exact hc _ _ _ _
  · exact hc _ _ _ _
theorem xinv_spl {call : XCall} (hc : SplCall call) {name : String} {x : AV} {args : List AV} {h : H} {ds : List Bool} : Spl h (fun K => xinv m P call name x args h ds K) := by
  unfold xinv
  split
  · split
    · refine s_bool s_false ?_
      split
      · exact hc _ _ _ _
      · split
        · exact fun K hk => by
            obtain ⟨v, ds', a, c⟩ := (l_load (m := m) (P := P)) _ hk
            obtain ⟨v2, h2, ds2, a2, b2, c2⟩ := hc _ _ _ _ _ a
            exact ⟨v2, h2, ds2, a2, b2, fun K' hk' => c _ (c2 K' hk')⟩
        · exact s_false
    · exact s_false
  · exact s_false
theorem xact_spl {call : XCall} (hc : SplCall call) (ρ : Operand → AV) (op : Op) (h : H) (ds : List Bool) : Spl h (fun K => xact m P call ρ op h ds K) := by
  unfold xact
  split
  · rename_i c
    split
    · rename_i f hf
      cases ρ f <;> try exact s_false
      · rename_i fn a b
        cases fn <;> first | exact s_bool s_false (xcl_spl hc) | exact s_false
      · exact hc _ _ _ _
    · exact xinv_spl hc
    · exact xop_s _ _ _
  · exact xop_s _ _ _
theorem xops_spl {call : XCall} (hc : SplCall call) {n : Nat} {env : Env} {all : List Oper} : ∀ (ops : List Oper) (loc : Lo) (h : H) (ds : List Bool),
    SplR h (fun K => xops m P gl call n env all ops loc h ds K)
  | [], loc, h, ds => fun K hk => ⟨loc, h, ds, hk, Nat.le_refl _, fun _ h => h⟩
  | o :: rest, loc, h, ds => fun K hk => by
    have key : ∀ K, xops m P gl call n env all (o :: rest) loc h ds K = wants all loc env o.guard (fun b => Bool.rec
      (putL n o.dst (.tup []) loc fun loc => xops m P gl call n env all rest loc h ds K)
      (xact m P call (opd gl loc env) o.op h ds fun v h ds => putL n o.dst v loc fun loc => xops m P gl call n env all rest loc h ds K) b) := fun _ => rfl
    dsimp only at hk
    rw [key] at hk
    obtain ⟨b, hk, back⟩ := wants_split hk
    cases b with
    | false =>
      obtain ⟨loc', hk, back2, _, _⟩ := putL_split hk
      obtain ⟨a, h', ds', e1, e2, e3⟩ := xops_spl hc rest loc' h ds K hk
      exact ⟨a, h', ds', e1, e2, fun K' hk' => by dsimp only; rw [key]; exact back _ (back2 _ (e3 K' hk'))⟩
    | true =>
      obtain ⟨v, h1, ds1, hk, l1, back1⟩ := xact_spl hc _ _ _ _ _ hk
      obtain ⟨loc', hk, back2, _, _⟩ := putL_split hk
      obtain ⟨a, h', ds', e1, e2, e3⟩ := xops_spl hc rest loc' h1 ds1 K hk
      exact ⟨a, h', ds', e1, Nat.le_trans l1 e2, fun K' hk' => by dsimp only; rw [key]; exact back _ (back1 _ (back2 _ (e3 K' hk')))⟩
theorem sameV_split {u v : AV} {K : Prop} (hk : sameV m u v K) : K ∧ ∀ K' : Prop, K' → sameV m u v K' := by
  cases m with
  | true =>
    have hk : (Bool.rec (u = v ∧ K) K (avEqC u v) : Prop) := hk
    show K ∧ ∀ K' : Prop, K' → (Bool.rec (u = v ∧ K') K' (avEqC u v) : Prop)
    cases hb : avEqC u v with
    | true => rw [hb] at hk; exact ⟨hk, fun _ h => h⟩
    | false => rw [hb] at hk; exact ⟨hk.2, fun _ h => ⟨hk.1, h⟩⟩
  | false =>
    have hk : (Bool.rec False K (avEq u v) : Prop) := hk
    show K ∧ ∀ K' : Prop, K' → (Bool.rec False K' (avEq u v) : Prop)
    cases hb : avEq u v with
    | true => rw [hb] at hk; exact ⟨hk, fun _ h => h⟩
    | false => rw [hb] at hk; exact hk.elim
theorem again_split {anc : List Nat} {i : Nat} {h : H} {ds : List Bool} : ∀ {rl : RLs} {K : Prop}, again m P anc i h ds rl K → K ∧ ∀ K' : Prop, K' → again m P anc i h ds rl K'
  | [], K, hk => ⟨hk, fun _ h => h⟩
  | x :: rl, K, hk => by
    have key : ∀ K, again m P anc i h ds (x :: rl) K = (Bool.rec (xlk m P x.2.1 h ds fun u _ _ => sameV m u x.2.2 (again m P anc i h ds rl K)) (again m P anc i h ds rl K) (an anc x.1 i) : Prop) := fun _ => rfl
    rw [key] at hk
    cases hb : an anc x.1 i with
    | true =>
      rw [hb] at hk
      obtain ⟨a, b⟩ := again_split hk
      exact ⟨a, fun K' hk' => by rw [key, hb]; exact b K' hk'⟩
    | false =>
      rw [hb] at hk
      obtain ⟨v, ds', e1, e2⟩ := l_lk _ _ hk
      obtain ⟨a, b⟩ := sameV_split e1
      obtain ⟨c, d⟩ := again_split a
      exact ⟨c, fun K' hk' => by rw [key, hb]; exact e2 _ (b _ (d K' hk'))⟩
theorem xdr_spl {call : XCall} (hc : SplCall call) {n : Nat} {env : Env} {all : List Oper} {anc : List Nat} : ∀ (its : List (Nat × Oper)) (loc : Lo) (h : H) (ds : List Bool) (rl : RLs),
    SplR h (fun K => xdr m P gl call n env all anc its loc h ds rl K)
  | [], loc, h, ds, rl => fun K hk => ⟨loc, h, ds, hk, Nat.le_refl _, fun _ h => h⟩
  | x :: rest, loc, h, ds, rl => fun K hk => by
    have key : ∀ K, xdr m P gl call n env all anc (x :: rest) loc h ds rl K = wants all loc env x.2.guard (fun b => Bool.rec
      (putL n x.2.dst (.tup []) loc fun loc => xdr m P gl call n env all anc rest loc h ds rl K)
      (xact m P call (opd gl loc env) x.2.op h ds fun v h ds => putL n x.2.dst v loc fun loc' =>
        Bool.rec (xdr m P gl call n env all anc rest loc' h ds (noteL x.2.op x.1 (opd gl loc env) v rl) K) (again m P anc x.1 h ds rl (xdr m P gl call n env all anc rest loc' h ds rl K)) (Nat.beq (kindO P x.2.op) 3)) b) := fun _ => rfl
    dsimp only at hk
    rw [key] at hk
    obtain ⟨b, hk, back⟩ := wants_split hk
    cases b with
    | false =>
      obtain ⟨loc', hk, back2, _, _⟩ := putL_split hk
      obtain ⟨a, h', ds', e1, e2, e3⟩ := xdr_spl hc rest loc' h ds rl K hk
      exact ⟨a, h', ds', e1, e2, fun K' hk' => by dsimp only; rw [key]; exact back _ (back2 _ (e3 K' hk'))⟩
    | true =>
      obtain ⟨v, h1, ds1, hk, l1, back1⟩ := xact_spl hc _ _ _ _ _ hk
      obtain ⟨loc', hk, back2, _, _⟩ := putL_split hk
      cases hb : Nat.beq (kindO P x.2.op) 3 with
      | false =>
        rw [hb] at hk
        obtain ⟨a, h', ds', e1, e2, e3⟩ := xdr_spl hc rest loc' h1 ds1 _ K hk
        exact ⟨a, h', ds', e1, Nat.le_trans l1 e2, fun K' hk' => by dsimp only; rw [key]; exact back _ (back1 _ (back2 _ (by rw [hb]; exact e3 K' hk')))⟩
      | true =>
        rw [hb] at hk
        obtain ⟨hk, back3⟩ := again_split hk
        obtain ⟨a, h', ds', e1, e2, e3⟩ := xdr_spl hc rest loc' h1 ds1 _ K hk
        exact ⟨a, h', ds', e1, Nat.le_trans l1 e2, fun K' hk' => by dsimp only; rw [key]; exact back _ (back1 _ (back2 _ (by rw [hb]; exact back3 _ (e3 K' hk'))))⟩
theorem xdraw_spl {call : XCall} (hc : SplCall call) {n : Nat} {env : Env} {ops : List Oper} {h : H} {ds : List Bool} : SplR h (fun K => xdraw m P gl call n env ops h ds K) := by
  unfold xdraw
  cases planOf P ops with
  | none => exact fun K hk => hk.elim
  | some its => exact xdr_spl hc its [] h ds []
theorem xres_split {env : Env} {h : H} {ds : List Bool} : ∀ {rs : List ResultVar} {K : List AV → Prop}, xres m P env h ds rs K → ∃ vs, K vs ∧ ∀ K' : List AV → Prop, K' vs → xres m P env h ds rs K'
  | [], K, hk => ⟨[], hk, fun _ h => h⟩
  | r :: rs, K, hk => by
    cases r with
    | tmp t =>
      have hk : xres m P env h ds rs (fun vs => K (eget env t :: vs)) := hk
      obtain ⟨vs, a, b⟩ := xres_split hk
      exact ⟨_, a, fun K' hk' => b (fun vs => K' (eget env t :: vs)) hk'⟩
    | cell a t =>
      have hk : xload m P t (eget env a) h ds (fun v _ _ => xres m P env h ds rs fun vs => K (v :: vs)) := hk
      obtain ⟨v, ds', e1, e2⟩ := l_load _ hk
      obtain ⟨vs, a, b⟩ := xres_split e1
      exact ⟨_, a, fun K' hk' => e2 (fun v _ _ => xres m P env h ds rs fun vs => K' (v :: vs)) (b (fun vs => K' (v :: vs)) hk')⟩

/-- contracts come to one outcome -/
def SplL1 (l : LCon) : Prop := ∀ env h ds (K : KE), l env h ds K → ∃ x e h' ds', K x e h' ds' ∧ h.next ≤ h'.next ∧ ∀ K' : KE, K' x e h' ds' → l env h ds K'
structure SplCon (C : Cfg) : Prop where
  con : ∀ f c, C.con f = some c → ∀ args h ds, Spl h (fun K => c args h ds K)
  lc : ∀ f k l, C.lc f k = some l → SplL1 l
def SplCode (X : XCode) : Prop := ∀ f code mask n env h ds (K : KE), X f code mask n env h ds K → ∃ x e h' ds', K x e h' ds' ∧ h.next ≤ h'.next ∧ ∀ K' : KE, K' x e h' ds' → X f code mask n env h ds K'
/-- yield's run, but for the last step: the heap ahead of the body, the body's outcome -/
theorem xround_split {X : XCode} (hX : SplCode X) {i : Nat} {args : List AV} {h : H} {ds : List Bool} {K : KV} (hk : xround X i args h ds K) :
    ∃ j mask n env ps asg body e h1 ds1 j2 mask2 n2 env2 ps2 asg2 body2 x e3 h3 ds3 j3 mask3 n3 env3 ps3 asg3 body3,
      h.b.get i = some (.loop .ready j mask n env ps asg body) ∧ Nat.beq (llen args) (llen ps) = true ∧ parOK n ps = true ∧
      (∀ K' : KE, K' .nrm e h1 ds1 → X YK asg mask n (parEnv mask ps args env) h ds K') ∧ h.next ≤ h1.next ∧ h1.b.get i = some (.loop .ready j2 mask2 n2 env2 ps2 asg2 body2) ∧
      (∀ K' : KE, K' x e3 h3 ds3 → X YK body mask n e ⟨h1.b.set (.loop .busy j2 mask2 n2 env2 ps2 asg2 body2) i, h1.next⟩ ds1 K') ∧ h1.next ≤ h3.next ∧ h3.b.get i = some (.loop .busy j3 mask3 n3 env3 ps3 asg3 body3) ∧
      ((x = .nrm ∧ K (.bool true) ⟨h3.b.set (.loop .ready none mask3 n3 env3 ps3 asg3 body3) i, h3.next⟩ ds3) ∨
       (x ≠ .nrm ∧ K (.bool false) ⟨h3.b.set (.loop .done (some (XE.code x)) mask3 n3 env3 ps3 asg3 body3) i, h3.next⟩ ds3)) := by
  unfold xround at hk
  split at hk <;> try exact hk.elim
  rename_i j mask n env ps asg body hi
  cases hb : Bool.and (Nat.beq (llen args) (llen ps)) (parOK n ps) with
  | false => rw [hb] at hk; exact hk.elim
  | true =>
    rw [hb] at hk
    obtain ⟨hb1, hb2⟩ := band' hb
    obtain ⟨x, e, h1, ds1, e1, e2, e3⟩ := hX _ _ _ _ _ _ _ _ hk
    cases x <;> try exact e1.elim
    dsimp only at e1
    split at e1 <;> try exact e1.elim
    rename_i j2 mask2 n2 env2 ps2 asg2 body2 hi2
    obtain ⟨x, e4, h3, ds3, f1, f2, f3⟩ := hX _ _ _ _ _ _ _ _ e1
    try dsimp only at f1
    split at f1 <;> try exact f1.elim
    rename_i j3 mask3 n3 env3 ps3 asg3 body3 hi3
    refine ⟨j, mask, n, env, ps, asg, body, e, h1, ds1, j2, mask2, n2, env2, ps2, asg2, body2, x, e4, h3, ds3, j3, mask3, n3, env3, ps3, asg3, body3, hi, hb1, hb2, ?_, e2, hi2, ?_, f2, hi3, ?_⟩
    · exact e3
    · intro K' hk'
      exact f3 K' hk'
    · cases x with
      | nrm => exact .inl ⟨rfl, f1⟩
      | _ => exact .inr ⟨by simp, f1⟩
theorem xround_spl {X : XCode} (hX : SplCode X) (i : Nat) (args : List AV) (h : H) (ds : List Bool) : Spl h (fun K => xround X i args h ds K) := by
  intro K hk
  obtain ⟨j, mask, n, env, ps, asg, body, e, h1, ds1, j2, mask2, n2, env2, ps2, asg2, body2, x, e3, h3, ds3, j3, mask3, n3, env3, ps3, asg3, body3, a1, a2, a3, a4, a5, a6, a7, a8, a9, a10⟩ := xround_split hX hk
  have hle : h.next ≤ h3.next := Nat.le_trans a5 a8
  have mk : ∀ K' : KV, ((x = .nrm → K' (.bool true) ⟨h3.b.set (.loop .ready none mask3 n3 env3 ps3 asg3 body3) i, h3.next⟩ ds3) ∧ (x ≠ .nrm → K' (.bool false) ⟨h3.b.set (.loop .done (some (XE.code x)) mask3 n3 env3 ps3 asg3 body3) i, h3.next⟩ ds3)) → xround X i args h ds K' := by
    intro K' hk'
    unfold xround
    rw [a1]
    try dsimp only
    rw [show Bool.and (Nat.beq (llen args) (llen ps)) (parOK n ps) = true by rw [a2, a3]; rfl]
    refine a4 _ ?_
    dsimp only
    rw [a6]
    refine a7 _ ?_
    try dsimp only
    rw [a9]
    cases x with
    | nrm => exact hk'.1 rfl
    | _ => exact hk'.2 (by simp)
  rcases a10 with ⟨hx, hK⟩ | ⟨hx, hK⟩
  · exact ⟨_, _, _, hK, hle, fun K' hk' => mk K' ⟨fun _ => hk', fun h => absurd hx h⟩⟩
  · exact ⟨_, _, _, hK, hle, fun K' hk' => mk K' ⟨fun h => absurd h hx, fun _ => hk'⟩⟩
theorem xfun_spl {C : Cfg} (hC : SplCon C) {X : XCode} (hX : SplCode X) : SplCall (xfun C P X) := by
  intro f args h ds
  unfold xfun
  refine s_bool (xround_spl hX _ _ _ _) (s_bool s_false ?_)
  cases hc : C.con f with
  | some c => exact hC.con f c hc args h ds
  | none =>
    dsimp only
    cases P.funcs[f]? with
    | none => exact s_false
    | some fn =>
      dsimp only
      cases fn.body with
      | none => exact s_false
      | some b =>
        refine s_bool s_false ?_
        intro K hk
        obtain ⟨x, e, h', ds', e1, e2, e3⟩ := hX _ _ _ _ _ _ _ _ hk
        cases x <;> first
          | exact e1.elim
          | (obtain ⟨vs, a, b⟩ := xres_split e1
             exact ⟨_, h', ds', a, e2, fun K' hk' => e3 _ (b (fun vs => K' (one1 vs) h' ds') hk')⟩)
theorem xdone_split {i : Nat} {env : Env} {h : H} {ds : List Bool} {K : KE} (hk : xdone i env h ds K) : ∃ x, K x env ⟨h.b.del i, h.next⟩ ds ∧ ∀ K' : KE, K' x env ⟨h.b.del i, h.next⟩ ds → xdone i env h ds K' := by
  unfold xdone at hk ⊢
  split at hk <;> try exact hk.elim
  · split at hk <;> try exact hk.elim
    exact ⟨_, hk, fun _ h => h⟩
  · split at hk <;> try exact hk.elim
    all_goals exact ⟨_, hk, fun _ h => h⟩
theorem xcode_spl {C : Cfg} (hC : SplCon C) : ∀ fuel, SplCode (xcode C P fuel)
  | 0 => fun f code mask n env h ds K hk => hk.elim
  | fuel + 1 => by
    have ih := xcode_spl hC fuel
    have hcall := xfun_spl (P := P) hC ih
    have here : ∀ {x : XE} {env : Env} {h : H} {ds : List Bool} {K : KE} {F : KE → Prop}, (∀ K, F K = K x env h ds) → F K → ∃ x e h' ds', K x e h' ds' ∧ h.next ≤ h'.next ∧ ∀ K' : KE, K' x e h' ds' → F K' :=
      fun hF hk => ⟨_, _, _, _, by rw [hF] at hk; exact hk, Nat.le_refl _, fun K' hk' => by rw [hF]; exact hk'⟩
    intro f code mask n env h ds K hk
    cases code with
    | skip => exact here (F := fun K => xcode C P (fuel + 1) f .skip mask n env h ds K) (fun _ => rfl) hk
    | label l => exact here (F := fun K => xcode C P (fuel + 1) f (.label l) mask n env h ds K) (fun _ => rfl) hk
    | exit id => exact here (F := fun K => xcode C P (fuel + 1) f (.exit id) mask n env h ds K) (fun _ => rfl) hk
    | goto l => exact here (F := fun K => xcode C P (fuel + 1) f (.goto l) mask n env h ds K) (fun _ => rfl) hk
    | ret => exact here (F := fun K => xcode C P (fuel + 1) f .ret mask n env h ds K) (fun _ => rfl) hk
    | rangeFunc g ps asg body =>
      have key : ∀ K, xcode C P (fuel + 1) f (.rangeFunc g ps asg body) mask n env h ds K = (match opd C.gl [] env g with
        | .fn (.func q) first cap => (Bool.rec False (xfun C P (xcode C P fuel) q (lapp first (lapp [.yld h.next] cap)) (hnew h (.loop .ready none mask n env ps.toList asg body)) ds fun _ h2 ds => xdone h.next env h2 ds K) (Bool.and (Nat.ble (Nat.succ f) YK) (Nat.ble (Nat.succ q) YK)) : Prop)
        | _ => False) := fun _ => rfl
      rw [key] at hk
      simp only [key]
      split at hk <;> try exact hk.elim
      rename_i q first cap hv
      cases hb : Bool.and (Nat.ble (Nat.succ f) YK) (Nat.ble (Nat.succ q) YK) with
      | false => rw [hb] at hk; exact hk.elim
      | true =>
        rw [hb] at hk
        obtain ⟨v, h', ds', e1, e2, e3⟩ := hcall _ _ _ _ _ hk
        have e2 : h.next + 1 ≤ h'.next := e2
        obtain ⟨x, f1, f2⟩ := xdone_split e1
        exact ⟨x, env, _, ds', f1, by show h.next ≤ h'.next; omega, fun K' hk' => e3 _ (f2 K' hk')⟩
    | scope c =>
      obtain ⟨x, e, h', ds', e1, e2, e3⟩ := ih _ _ _ _ _ _ _ _ hk
      cases x with
      | nrm => exact ⟨_, e, h', ds', e1, e2, fun K' hk' => e3 _ hk'⟩
      | ext id => exact ⟨_, e, h', ds', e1, e2, fun K' hk' => e3 _ hk'⟩
      | gto l => exact e1.elim
      | ret => exact ⟨_, e, h', ds', e1, e2, fun K' hk' => e3 _ hk'⟩
    | refuse => exact hk.elim
    | region id ops draw =>
      cases draw with
      | false =>
        obtain ⟨loc, h', ds', e1, e2, e3⟩ := xops_spl hcall ops.toList [] h ds _ hk
        exact ⟨_, _, h', ds', e1, e2, fun K' hk' => e3 (fun loc h ds => K' .nrm (flush mask loc env) h ds) hk'⟩
      | true =>
        obtain ⟨loc, h', ds', e1, e2, e3⟩ := xdraw_spl hcall _ hk
        exact ⟨_, _, h', ds', e1, e2, fun K' hk' => e3 (fun loc h ds => K' .nrm (flush mask loc env) h ds) hk'⟩
    | seq a b =>
      obtain ⟨x, e, h', ds', e1, e2, e3⟩ := ih _ _ _ _ _ _ _ _ hk
      cases x with
      | nrm =>
        obtain ⟨x2, e', h2, ds2, f1, f2, f3⟩ := ih _ _ _ _ _ _ _ _ e1
        exact ⟨x2, e', h2, ds2, f1, Nat.le_trans e2 f2, fun K' hk' => e3 _ (f3 K' hk')⟩
      | ext id => exact ⟨_, e, h', ds', e1, e2, fun K' hk' => e3 _ hk'⟩
      | gto l => exact ⟨_, e, h', ds', e1, e2, fun K' hk' => e3 _ hk'⟩
      | ret => exact ⟨_, e, h', ds', e1, e2, fun K' hk' => e3 _ hk'⟩
    | cond c a b =>
      have key : ∀ K, xcode C P (fuel + 1) f (.cond c a b) mask n env h ds K = (match opd C.gl [] env c with
        | .bool t => (Bool.rec (xcode C P fuel f b mask n env h ds K) (xcode C P fuel f a mask n env h ds K) t : Prop)
        | _ => False) := fun _ => rfl
      rw [key] at hk
      cases hv : opd C.gl [] env c <;> rw [hv] at hk <;> try exact hk.elim
      rename_i t
      cases t with
      | false =>
        obtain ⟨x, e, h', ds', e1, e2, e3⟩ := ih _ _ _ _ _ _ _ _ hk
        exact ⟨x, e, h', ds', e1, e2, fun K' hk' => by rw [key, hv]; exact e3 K' hk'⟩
      | true =>
        obtain ⟨x, e, h', ds', e1, e2, e3⟩ := ih _ _ _ _ _ _ _ _ hk
        exact ⟨x, e, h', ds', e1, e2, fun K' hk' => by rw [key, hv]; exact e3 K' hk'⟩
    | block id c =>
      have key : ∀ K, xcode C P (fuel + 1) f (.block id c) mask n env h ds K = xcode C P fuel f c mask n env h ds (fun x env h ds => Bool.rec (K x env h ds) (K .nrm env h ds) (isExt x id)) := fun _ => rfl
      rw [key] at hk
      obtain ⟨x, e, h', ds', e1, e2, e3⟩ := ih _ _ _ _ _ _ _ _ hk
      cases hb : isExt x id with
      | true => rw [hb] at e1; exact ⟨_, e, h', ds', e1, e2, fun K' hk' => by rw [key]; exact e3 _ (by rw [hb]; exact hk')⟩
      | false => rw [hb] at e1; exact ⟨_, e, h', ds', e1, e2, fun K' hk' => by rw [key]; exact e3 _ (by rw [hb]; exact hk')⟩
    | loop c =>
      have key : ∀ K, xcode C P (fuel + 1) f (.loop c) mask n env h ds K = (match (Bool.rec none (C.lc f (fid c)) (Nat.ble (Nat.succ f) YK) : Option LCon) with
        | some l => l env h ds K
        | none => xcode C P fuel f c mask n env h ds fun x env h ds => match x with
          | .nrm => xcode C P fuel f (.loop c) mask n env h ds K
          | x => K x env h ds) := fun _ => rfl
      rw [key] at hk
      simp only [key]
      cases hl : (Bool.rec none (C.lc f (fid c)) (Nat.ble (Nat.succ f) YK) : Option LCon) with
      | some l =>
        rw [hl] at hk
        have hl : C.lc f (fid c) = some l := by
          cases hb : Nat.ble (Nat.succ f) YK with
          | false => rw [hb] at hl; cases hl
          | true => rw [hb] at hl; exact hl
        exact hC.lc f _ l hl env h ds K hk
      | none =>
      rw [hl] at hk
      dsimp only at hk ⊢
      obtain ⟨x, e, h', ds', e1, e2, e3⟩ := ih _ _ _ _ _ _ _ _ hk
      cases x with
      | nrm =>
        obtain ⟨x2, e', h2, ds2, f1, f2, f3⟩ := ih _ _ _ _ _ _ _ _ e1
        exact ⟨x2, e', h2, ds2, f1, Nat.le_trans e2 f2, fun K' hk' => e3 _ (f3 K' hk')⟩
      | ext id => exact ⟨_, e, h', ds', e1, e2, fun K' hk' => e3 _ hk'⟩
      | gto l => exact ⟨_, e, h', ds', e1, e2, fun K' hk' => e3 _ hk'⟩
      | ret => exact ⟨_, e, h', ds', e1, e2, fun K' hk' => e3 _ hk'⟩
end
end
end Go.X
/- Regions in the order of the text: the executor's are the model's. -/
set_option autoImplicit false
namespace Go.X
noncomputable section
section
variable {P : Program} {gl : Glob}

def RL (L : LM) (loc : Lo) (env : Env) (a : Act) : Prop := ∀ t, RV L (look loc env t) (a.tmps.getD t undef)
structure RE' (L : LM) (mask : Nat) (env : Env) (a : Act) : Prop where
  get : ∀ t v, T.get env t = some v → RV L v (a.tmps.getD t undef)
  bits : ∀ t v, T.get env t = some v → bit mask t = true

theorem look_nil (env : Env) (t : Nat) : look [] env t = eget env t := rfl
theorem look_cons (d : Nat) (v : AV) (loc : Lo) (env : Env) (t : Nat) : look ((d, v) :: loc) env t = if d = t then v else look loc env t := by
  show (Bool.rec (look loc env t) v (Nat.beq d t) : AV) = _
  by_cases h : d = t
  · rw [if_pos h, natBeq_iff.2 h]
  · rw [if_neg h]
    cases hb : Nat.beq d t with
    | true => exact absurd (Nat.eq_of_beq_eq_true hb) h
    | false => rfl
theorem eget_rel {L : LM} {mask : Nat} {env : Env} {a : Act} (r : RE' L mask env a) (t : Nat) : RV L (eget env t) (a.tmps.getD t undef) := by
  unfold eget
  cases h : T.get env t with
  | none => exact .any _
  | some v => exact r.get t v h
theorem RE'.loc {L : LM} {mask : Nat} {env : Env} {a : Act} (r : RE' L mask env a) : RL L [] env a := fun t => eget_rel r t
theorem RE'.mono {L L' : LM} (x : Ext L L') {mask : Nat} {env : Env} {a : Act} (r : RE' L mask env a) : RE' L' mask env a :=
  ⟨fun t v h => (r.get t v h).mono x, r.bits⟩
theorem RL.mono {L L' : LM} (x : Ext L L') {loc : Lo} {env : Env} {a : Act} (r : RL L loc env a) : RL L' loc env a := fun t => (r t).mono x
theorem getD_put (a : Act) (d : Nat) (v : Value) (t : Nat) (hd : d < a.tmps.size) : (a.put (some d) v).tmps.getD t undef = if d = t then v else a.tmps.getD t undef := by
  simp only [Act.put, Array.getD_eq_getD_getElem?, Array.getElem?_setIfInBounds]
  by_cases h : d = t
  · subst h; simp [hd]
  · simp [h]
theorem putL_sound {n : Nat} {dst : Option Nat} {v : AV} {v' : Value} {loc : Lo} {K : Lo → Prop} (hk : putL n dst v loc K) {L : LM} {env : Env} {a : Act} (hn : a.tmps.size = n)
    (r : RL L loc env a) (hv : RV L v v') : ∃ loc', K loc' ∧ RL L loc' env (a.put dst v') ∧ (a.put dst v').tmps.size = n ∧ (a.put dst v').defers = a.defers := by
  unfold putL at hk
  cases dst with
  | none => exact ⟨loc, hk, r, hn, rfl⟩
  | some d =>
    have hk : (Bool.rec False (K ((d, v) :: loc)) (Nat.ble (Nat.succ d) n) : Prop) := hk
    cases hb : Nat.ble (Nat.succ d) n with
    | false => rw [hb] at hk; exact hk.elim
    | true =>
      rw [hb] at hk
      have hd : d < a.tmps.size := by rw [hn]; exact Nat.le_of_ble_eq_true hb
      refine ⟨_, hk, fun t => ?_, by simp [Act.put, hn], rfl⟩
      rw [getD_put a d v' t hd, look_cons]
      by_cases h : d = t
      · rw [if_pos h, if_pos h]; exact hv
      · rw [if_neg h, if_neg h]; exact r t
/-- how many cells a global's block has (of the tables that strconv and math/bits lay) -/
def gsz (g : Nat) : Nat := match g with
  | 0 => 20
  | 1 => 32
  | 2 => 64
  | _ => 0
/-- the globals are where they are said to be -/
def RG (L : LM) (gl : Glob) : Prop := ∀ g i, gl g = some i → L i = some ⟨g, 0, gsz g⟩
theorem RG.mono {L L' : LM} (x : Ext L L') (r : RG L gl) : RG L' gl := fun g i h => x _ _ (r g i h)
theorem gl_rel {L : LM} (rg : RG L gl) (loc : Lo) (env : Env) (a : Act) (g : Nat) : RV L (opd gl loc env (.global g)) (a.eval (.global g)) := by
  show RV L (match gl g with | some i => .ptr i 0 | none => .any) (.pointer (some ⟨g, 0, none⟩))
  cases h : gl g with
  | none => exact .any _
  | some i => exact .ptr i 0 _ (rg g i h)
theorem opd_rel {L : LM} (rg : RG L gl) {loc : Lo} {env : Env} {a : Act} (r : RL L loc env a) (x : Operand) : RV L (opd gl loc env x) (a.eval x) := by
  cases x with
  | tmp t => exact r t
  | const v => exact rv_ofV L v
  | global g => exact gl_rel rg loc env a g
  | func f => exact .fn (.func f) [] [] #[] #[] .nil .nil

/-- what a call of a function comes to -/
def CallOK (P : Program) (gl : Glob) (f : Nat) (args : List AV) (h : H) (KV : AV → H → List Bool → Prop) : Prop :=
  ∀ (L : LM) (w : World) (args' : Array Value) (U : Nat), RG L gl → RVs L args args'.toList → RH L h w U → (∀ v h' ds', KV v h' ds' → h'.next ≤ U) →
    Calls P f args' w fun e w' => ∃ v h' ds' L' v', e = .returned v' ∧ KV v h' ds' ∧ RV L' v v' ∧ RH L' h' w' U ∧ Step L L' h h' w w'
/-- no fence; the frame may be a round's -/
def WF (ro : Option Nat) : Fence := { fn := fun _ => True, depth := none, alive := false, round := ro }
theorem room_WF (ro : Option Nat) (n : Nat) : (WF ro).room n := fun _ h => by cases h
theorem callsWF {ro : Option Nat} {n : Nat} {f : FuncId} {args : Array Value} {w : World} {R : Ending → World → Prop} (h : Calls P f args w R) : CallsIn (WF ro) n P f args w R :=
  (callsIn_wide (n := n)).2 h
theorem callsOfWF {n : Nat} {f : FuncId} {args : Array Value} {w : World} {R : Ending → World → Prop} (h : CallsIn (WF none) n P f args w R) : Calls P f args w R :=
  callsIn_wide.1 (by exact h)
/-- what a round comes to -/
def RoundOK (P : Program) (gl : Glob) (i : Nat) (args : List AV) (h : H) (KV : AV → H → List Bool → Prop) : Prop :=
  ∀ (L : LM) (w : World) (args' : Array Value) (U : Nat) (p : Loc), RG L gl → RVs L args args'.toList → RH L h w U → (∀ v h' ds', KV v h' ds' → h'.next ≤ U) → L i = some p →
    ∃ fn tmps asg body, (Instr.yield p.B args').run P w = .ok (.round p.B fn tmps asg body) w ∧ ∀ ro : Option Nat, RoundIn (WF ro) 0 P p.B fn tmps asg body w fun e w' =>
      ∃ v h' ds' L' v', e = .returned v' ∧ KV v h' ds' ∧ RV L' v v' ∧ RH L' h' w' U ∧ Step L L' h h' w w'
structure CallsOK (P : Program) (gl : Glob) (call : XCall) : Prop where
  fn : ∀ f args h ds KV, Nat.ble (Nat.succ f) YK = true → call f args h ds KV → enterable P f = true ∧ CallOK P gl f args h KV
  rnd : ∀ i args h ds KV, call (Nat.add YK i) args h ds KV → RoundOK P gl i args h KV
theorem xop_nd {m : Bool} {ρ : Operand → AV} {op : Op} {h : H} {ds : List Bool} {K : KV} (hk : xop m P ρ op h ds K) : ∀ c, op ≠ .defer c := by
  rintro c rfl
  exact hk.elim
theorem wpIn_plain {ro : Option Nat} {o : Oper} {a : Act} {w : World} {next : Act → World → Prop} {Q : Exit → Act → World → Prop} (hnd : ∀ c, o.op ≠ .defer c)
    (h : o.uponIn (WF ro) 0 P a next Q ((execOp a.eval o).run P w)) : o.wpIn (WF ro) 0 P a w next Q :=
  ⟨fun _ _ => trivial, by rw [Oper.semAt_eq _ _ _ hnd]; exact h⟩

theorem run_enter {f : Nat} (h : enterable P f = true) (args : Array Value) (w : World) : (callFunc f args).run P w = .ok (.enter f args) w := by
  unfold enterable at h
  split at h
  · rename_i fn hf
    split at h
    · rename_i b hb
      have hn : ¬ (fn.name = "runtime.NumGoroutine") := by simpa using h
      simp [callFunc, hf, hn, hb]
    · cases h
  · cases h

theorem look_next : Extern.allNextRows.lookup "maps.clone" = none := by rfl
theorem look_next0 : Extern.allNextRows.lookup "" = none := by rfl
theorem look_gen : Extern.allGenericRows.lookup "maps.clone" = none := by rfl
theorem look_typ : Extern.allTypedRows.lookup "maps.clone" = none := by rfl
theorem look_row : Extern.allRows.lookup "maps.clone" = some Extern.MapsClone.clone := by rfl
theorem run_clone {f : Nat} (h : isClone P f = true) {t : TypeId} {B : Nat} {w : World} {es : Array MapEntry} {ck : Nat} (hb : w.heap[B]? = some (.map es ck)) :
    (callFunc f #[.iface t (.map (some B))]).run P w = .ok (.value (.iface t (.map (some w.heap.size)))) (w.alloc (.map es ck)) := by
  unfold isClone at h
  split at h
  · rename_i fn hf
    split at h
    · rename_i hbo
      simp only [Bool.and_eq_true, beq_iff_eq] at h
      obtain ⟨hn, ho⟩ := h
      have f1 : Extern.findNext fn = none := by
        unfold Extern.findNext
        dsimp only
        rw [hn, ho, look_next, look_next0]; rfl
      have f2 : Extern.find fn = some Extern.MapsClone.clone := by
        unfold Extern.find
        dsimp only
        rw [hn, look_gen, look_typ, look_row]; rfl
      have e : Extern.MapsClone.clone #[.iface t (.map (some B))] = (getObj B >>= fun o => match o with
        | .map entries clock => (newObj (.map entries clock) >>= fun n => pure (.iface t (.map (some n))))
        | _ => stuck "maps.clone: a map expected") := rfl
      simp [callFunc, hf, hn, hbo, f1, f2, e, MapKept.run_getObj_map (P := P) hb, Result.andThen, Go.mark, Sem.run]
    · cases h
  · cases h

theorem wants_sound {all : List Oper} {ops : Array Oper} (hall : ops.toList = all) {loc : Lo} {env : Env} {g : Option (Nat × Bool)} {K : Bool → Prop} (hk : wants all loc env g K)
    {L : LM} {a : Act} (r : RL L loc env a) {o : Oper} (ho : o.guard = g) : ∃ b, K b ∧ Region.wanted o (yielded ops a.tmps) = b := by
  unfold wants at hk
  unfold Region.wanted
  rw [ho]
  split at hk
  · exact ⟨true, hk, rfl⟩
  · rename_i j want
    split at hk <;> try exact hk.elim
    rename_i oj hj
    rw [lget_eq, ← hall] at hj
    have hj : ops[j]? = some oj := by simpa using hj
    split at hk <;> try exact hk.elim
    rename_i d hd
    have hr := r d
    have hy : ∀ v, a.tmps.getD d undef = v → yielded ops a.tmps j = (match v with | .bool b => some b | _ => none) ∨ (a.tmps[d]? = none) := by
      intro v hv
      cases ht : a.tmps[d]? with
      | none => exact .inr rfl
      | some u =>
        left
        have : a.tmps.getD d undef = u := by simp [Array.getD_eq_getD_getElem?, ht]
        rw [this] at hv; subst hv
        simp [yielded, hj, hd, ht]
        cases u <;> rfl
    split at hk <;> try exact hk.elim
    · rename_i b hb
      rw [hb] at hr
      refine ⟨_, hk, ?_⟩
      generalize hg : a.tmps.getD d undef = v at hr
      cases hr
      rcases hy _ hg with e | e
      · show (yielded ops a.tmps j == some want) = _
        rw [e]; cases b <;> cases want <;> rfl
      · simp [Array.getD_eq_getD_getElem?, e, undef] at hg
    · rename_i vs hb
      rw [hb] at hr
      refine ⟨_, hk, ?_⟩
      generalize hg : a.tmps.getD d undef = v at hr
      cases hr
      rcases hy _ hg with e | e
      · show (yielded ops a.tmps j == some want) = _
        rw [e]; rfl
      · simp [yielded, hj, hd, e]

/-- a method of a pointer's type: which function, and what it is given -/
theorem run_method {w : World} {t : TypeId} {name : String} {f : FuncId} {e : Option TypeId} (h : methFn P t name = some (f, e)) (v : Value) (n : Nat) :
    (e = none → (method (n + 1) t v name).run P w = .ok (f, v) w) ∧ (∀ e', e = some e' → ∀ a v', v = .pointer (some a) → (Instr.loadAt e' v).run P w = .ok v' w → (method (n + 1) t v name).run P w = .ok (f, v') w) := by
  unfold methFn at h
  split at h <;> try cases h
  rename_i i hi
  split at h <;> try cases h
  rename_i mr hm
  split at h <;> try cases h
  rename_i hp
  split at h <;> try cases h
  rename_i f' b hf
  split at h <;> try cases h
  rename_i el hu
  have hi2 : (typeInfo t).run P w = .ok i w := run_typeInfo w hi
  have hu2 : (underlying t).run P w = .ok (.pointer el) w := run_underlying hu w
  have hpe : mr.path = #[] := Array.toList_inj.1 hp
  unfold method
  cases b with
  | true =>
    refine ⟨fun _ => ?_, fun e' h => by cases h⟩
    simp [Sem.run_bind, hi2, hm, hp, hf, follow, receiverAt, hu2, Place.get, Result.andThen]
  | false =>
    refine ⟨fun h => (by cases h), fun e' h a v' hv hl => ?_⟩
    cases h
    subst hv
    have hl2 : (loadVar el a).run P w = .ok v' w := by
      simpa [Instr.loadAt, Instr.sureAddr, Sem.run_bind, Result.andThen] using hl
    have hw : ∀ s, (Builtin.ssaWrapNilChk_ #[t] t #[.pointer (some a), strVal "", strVal s]).run P w = .ok (.pointer (some a)) w := fun _ => rfl
    simp [Sem.run_bind, hi2, hm, hf, follow, receiverAt, hu2, Place.get, Result.andThen, hpe, hw, asAddr, hl2]
theorem xact_sound {m : Bool} {ro : Option Nat} {call : XCall} (hc : CallsOK P gl call) {ρ : Operand → AV} {o : Oper} {h : H} {ds : List Bool} {K : KV} (hk : xact m P call ρ o.op h ds K)
    {L : LM} {a : Act} {w : World} {U : Nat} (hU : ∀ v h' ds', K v h' ds' → h'.next ≤ U) (rg : RG L gl) (hρ : ∀ x, RV L (ρ x) (a.eval x)) (r : RH L h w U) {next : Act → World → Prop} {Q : Exit → Act → World → Prop}
    (hnext : ∀ v h' ds' L' v' w', K v h' ds' → RV L' v v' → RH L' h' w' U → Step L L' h h' w w' → next (a.put o.dst v') w') : o.wpIn (WF ro) 0 P a w next Q := by
  have plain : xop m P ρ o.op h ds K → o.wpIn (WF ro) 0 P a w next Q := by
    intro hk
    have hnd := xop_nd hk
    obtain ⟨v, h', ds', L', v', w', a1, a2, a3, a4, a5⟩ := xop_sound r hU hρ o hk
    refine wpIn_plain hnd ?_
    rcases a2 with e | ⟨e, rfl⟩
    · rw [e]; exact hnext v h' ds' L' v' w' a1 a3 a4 a5
    · rw [e]; exact hnext v h' ds' L' undef w' a1 a3 a4 a5
  unfold xact at hk
  split at hk
  · rename_i c hop
    split at hk
    · rename_i f hf
      have hnd : ∀ c, o.op ≠ .defer c := by intro c h; rw [hop] at h; cases h
      split at hk <;> try exact hk.elim
      rotate_left
      · rename_i i hfv
        have hfr := hρ f
        rw [hfv] at hfr
        generalize hfe : a.eval f = fv at hfr
        cases hfr with
        | yld _ p hp =>
          have hargs : RVs L (lmap ρ c.args.toList) (c.args.map a.eval).toList := by
            rw [lmap_eq]; simpa using rvs_map hρ c.args.toList
          obtain ⟨fn, tmps, asg, body, hy, hr⟩ := hc.rnd _ _ _ _ _ hk L w _ U p rg hargs r hU hp
          have hrun : (execOp a.eval o).run P w = .ok (.round p.B fn tmps asg body) w := by
            simp [execOp, hop, resolve, hf, hfe, Deferred.ofValue, invoke, hy]
          refine wpIn_plain hnd ?_
          rw [hrun]
          refine ⟨(fun h => by simp [WF] at h), (hr ro).mono ?_⟩
          rintro e w' ⟨v, h', ds', L', v', rfl, k1, k2, k3, k4⟩
          exact hnext v h' ds' L' v' w' k1 k2 k3 k4
      rename_i g first cap hfv
      cases hgk : Nat.ble (Nat.succ g) YK with
      | false => rw [hgk] at hk; exact hk.elim
      | true =>
      rw [hgk] at hk
      have hfr := hρ f
      rw [hfv] at hfr
      generalize hfe : a.eval f = fv at hfr
      cases hfr with
      | fn _ _ _ xs ys h1 h2 =>
        have hargs : RVs L (lapp first (lapp (lmap ρ c.args.toList) cap)) ((xs ++ c.args.map a.eval) ++ ys).toList := by
          rw [lapp_eq, lapp_eq, lmap_eq, ← List.append_assoc]
          simpa using (h1.append (rvs_map hρ c.args.toList)).append h2
        have go : call g (lapp first (lapp (lmap ρ c.args.toList) cap)) h ds K → o.wpIn (WF ro) 0 P a w next Q := by
          intro hk
          obtain ⟨hen, hcall⟩ := hc.fn _ _ _ _ _ hgk hk
          have hrun : (execOp a.eval o).run P w = .ok (.enter g ((xs ++ c.args.map a.eval) ++ ys)) w := by
            simp [execOp, hop, resolve, hf, hfe, Deferred.ofValue, invoke, run_enter hen]
          refine wpIn_plain hnd ?_
          rw [hrun]
          refine ⟨(fun h => by simp [WF] at h), (callsWF (hcall L w _ U rg hargs r hU)).mono ?_⟩
          rintro e w' ⟨v, h', ds', L', v', rfl, k1, k2, k3, k4⟩
          exact hnext v h' ds' L' v' w' k1 k2 k3 k4
        have hk : xcl P call g (lapp first (lapp (lmap ρ c.args.toList) cap)) h ds K := hk
        unfold xcl at hk
        split at hk
        · rename_i t x hax
          split at hk
          · rename_i i
            cases hcl : isClone P g with
            | false => rw [hcl] at hk; exact go hk
            | true =>
              rw [hcl] at hk
              dsimp only at hk
              split at hk <;> try exact hk.elim
              rename_i bs ck es hi
              rw [hax] at hargs
              generalize hav : (xs ++ c.args.map a.eval) ++ ys = av at hargs
              obtain ⟨avl⟩ := av
              cases hargs with
              | cons _ v0 _ vr hv0 hvr =>
                cases hvr
                cases hv0 with
                | ifc _ _ _ hv1 =>
                  cases hv1 with
                  | map _ p hp =>
                    obtain ⟨ms, hb, hre, hbo⟩ := r.mem _ _ _ hi hp
                    have fro : ∀ a, (w.alloc (.map ms ck)).frozen? a = w.frozen? a := by
                      intro a
                      unfold World.frozen?
                      simp only [World.alloc, Array.getElem?_push]
                      by_cases h : a.block = w.heap.size
                      · rw [if_pos h, Array.getElem?_eq_none (by omega)]
                      · rw [if_neg h]
                    obtain ⟨L', e1, e2, e3⟩ := rh_new r (hU _ _ _ hk) (.map bs ck es) (.map ms ck) (fun a _ => fro a) 0 (fun L' hx => ⟨ms, alloc_new _ _, hre.mono hx, hbo⟩)
                    have hrun : (execOp a.eval o).run P w = .ok (.value (.iface t (.map (some w.heap.size)))) (w.alloc (.map ms ck)) := by
                      simp only [execOp, hop, resolve, hf, hfe, Deferred.ofValue, invoke, Sem.run_bind]
                      simp [hav, run_clone hcl hb, Result.andThen]
                    refine wpIn_plain hnd ?_
                    rw [hrun]
                    exact hnext _ _ _ L' _ _ hk (.ifc _ _ _ (.map _ _ e1)) e2 e3
          · exact go hk
        · exact go hk
    · rename_i rc name hrm
      have hnd : ∀ c, o.op ≠ .defer c := by intro c h; rw [hop] at h; cases h
      have hargs : RVs L (lmap ρ c.args.toList) (c.args.map a.eval).toList := by
        rw [lmap_eq]; simpa using rvs_map hρ c.args.toList
      unfold xinv at hk
      split at hk <;> try exact hk.elim
      rename_i t x hrv
      have hfr := hρ rc
      rw [hrv] at hfr
      generalize hre : a.eval rc = rv at hfr
      cases hfr with
      | ifc _ _ x' hx =>
        split at hk <;> try exact hk.elim
        rename_i f e hmf
        cases hgk : Nat.ble (Nat.succ f) YK with
        | false => rw [hgk] at hk; exact hk.elim
        | true =>
        rw [hgk] at hk
        obtain ⟨fu, hfu⟩ : ∃ fu, P.types.size + Made.depth = fu + 1 := ⟨P.types.size + (Made.depth - 1), by unfold Made.depth; omega⟩
        have go : ∀ (v : AV) (v' : Value) (ds1 : List Bool), RV L v v' → (method (fu + 1) t x' name).run P w = .ok (f, v') w → call f (v :: lmap ρ c.args.toList) h ds1 K → o.wpIn (WF ro) 0 P a w next Q := by
          intro v v' ds1 hv hmr hk
          obtain ⟨hen, hcall⟩ := hc.fn _ _ _ _ _ hgk hk
          have hargs2 : RVs L (v :: lmap ρ c.args.toList) (#[v'] ++ c.args.map a.eval).toList := by
            rw [Array.toList_append]
            exact .cons _ _ _ _ hv hargs
          have hrun : (execOp a.eval o).run P w = .ok (.enter f (#[v'] ++ c.args.map a.eval)) w := by
            have hm2 : (callMethod (.iface t x') name (c.args.map a.eval)).run P w = .ok (.enter f (#[v'] ++ c.args.map a.eval)) w := by
              unfold callMethod
              simp [Sem.run_bind, Result.andThen, hfu, hmr, run_enter hen]
            have h0 : (#[Value.iface t x'] ++ c.args.map a.eval)[0]? = some (.iface t x') := by
              rw [Array.getElem?_append_left (by simp)]; rfl
            have h1 : (c.args.map a.eval).extract 0 c.args.size = c.args.map a.eval := by
              apply Array.toList_inj.1
              simp
              exact List.take_of_length_le (by simp)
            simp [execOp, hop, resolve, hrm, hre, invoke, Result.andThen, h0, h1, hm2]
          refine wpIn_plain hnd ?_
          rw [hrun]
          refine ⟨(fun h => by simp [WF] at h), (callsWF (hcall L w _ U rg hargs2 r hU)).mono ?_⟩
          rintro e w' ⟨v, h', ds', L', v', rfl, k1, k2, k3, k4⟩
          exact hnext v h' ds' L' v' w' k1 k2 k3 k4
        cases e with
        | none => exact go x x' ds hx ((run_method hmf x' fu).1 rfl) hk
        | some e =>
          dsimp only at hk
          split at hk <;> try exact hk.elim
          rename_i i oo
          obtain ⟨v, ds1, v', k1, k2, k3⟩ := xload_ro r hx hk
          cases hx with
          | ptr _ _ p hp => exact go v v' ds1 k3 ((run_method hmf _ fu).2 e rfl _ _ rfl k2) k1
    · rw [← hop] at hk; exact plain hk
  · exact plain hk

theorem xops_sound {m : Bool} {ro : Option Nat} {call : XCall} (hc : CallsOK P gl call) (hs : SplCall call) {n : Nat} {env : Env} {ops : Array Oper} {K : Lo → H → List Bool → Prop} {Q : Exit → Act → World → Prop} {L0 : LM} {h0 : H} {w0 : World} {D : List Deferred} {U : Nat} (hU : ∀ loc h ds, K loc h ds → h.next ≤ U)
    (hQ : ∀ loc h ds L a w, K loc h ds → RL L loc env a → a.tmps.size = n → a.defers = D → RH L h w U → Step L0 L h0 h w0 w → Q .normal a w) :
    ∀ (rest pre : List Oper) (loc : Lo) (h : H) (ds : List Bool), ops.toList = pre ++ rest → xops m P gl call n env ops.toList rest loc h ds K →
      ∀ (L : LM) (a : Act) (w : World), RG L gl → RL L loc env a → a.tmps.size = n → a.defers = D → RH L h w U → Step L0 L h0 h w0 w → wpOpsIn (WF ro) 0 P ops Q (List.range' pre.length rest.length) a w
  | [], pre, loc, h, ds, hall, hk, L, a, w, rg, hl, hn, hd, r, s => hQ _ _ _ _ _ _ hk hl hn hd r s
  | o :: rest, pre, loc, h, ds, hall, hk, L, a, w, rg, hl, hn, hd, r, s => by
    have hget : ops[pre.length]? = some o := by
      have : ops.toList[pre.length]? = some o := by rw [hall]; simp
      simpa using this
    have hk : wants ops.toList loc env o.guard (fun b => Bool.rec
      (putL n o.dst (.tup []) loc fun loc => xops m P gl call n env ops.toList rest loc h ds K)
      (xact m P call (opd gl loc env) o.op h ds fun v h ds => putL n o.dst v loc fun loc => xops m P gl call n env ops.toList rest loc h ds K) b) := hk
    obtain ⟨b, hk, hw⟩ := wants_sound rfl hk hl rfl
    have ih := xops_sound (m := m) (ro := ro) (ops := ops) hc hs (L0 := L0) (h0 := h0) (w0 := w0) (D := D) hU hQ rest (pre ++ [o])
    have hall' : ops.toList = (pre ++ [o]) ++ rest := by rw [hall]; simp
    have hlen : (pre ++ [o]).length = pre.length + 1 := by simp
    show wpOpsIn (WF ro) 0 P ops Q (List.range' pre.length (rest.length + 1)) a w
    rw [List.range'_succ]
    simp only [wpOpsIn, hget, hw]
    cases b with
    | false =>
      simp only [Bool.false_eq_true, if_false]
      obtain ⟨loc', k1, k2, k3, k4⟩ := putL_sound hk hn hl (v' := undef) (.tup [] #[] .nil)
      have := ih loc' h ds hall' k1 L _ w rg k2 k3 (k4.trans hd) r s
      rw [hlen] at this
      exact ⟨fun _ _ => trivial, this⟩
    | true =>
      simp only [if_true]
      refine xact_sound hc hk (U := U) (fun v h' ds' hk' => ?_) rg (fun x => opd_rel rg hl x) r ?_
      · obtain ⟨loc', k1, _, _, _⟩ := putL_split hk'
        obtain ⟨loc2, h2, ds2, k2, k3, _⟩ := xops_spl hs rest loc' h' ds' K k1
        exact Nat.le_trans k3 (hU _ _ _ k2)
      intro v h' ds' L' v' w' q1 q2 q3 q4
      obtain ⟨loc', k1, k2, k3, k4⟩ := putL_sound q1 hn (hl.mono q4.ext) q2
      have := ih loc' h' ds' hall' k1 L' _ w' (rg.mono q4.ext) k2 k3 (k4.trans hd) q3 (s.trans q4)
      rwa [hlen] at this
theorem flush_rel {mask : Nat} : ∀ {loc : Lo} {env : Env}, (∀ t v, T.get env t = some v → bit mask t = true) → ∀ t v, T.get (flush mask loc env) t = some v → v = look loc env t ∧ bit mask t = true
  | [], env, hb, t, v, h => ⟨by rw [look_nil]; unfold eget; have h : T.get env t = some v := h; rw [h], hb t v h⟩
  | (d, u) :: loc, env, hb, t, v, h => by
    have h : T.get (Bool.rec (flush mask loc env) (T.set (flush mask loc env) u d) (bit mask d)) t = some v := h
    rw [look_cons]
    cases hm : bit mask d with
    | true =>
      rw [hm] at h
      rcases T.get_set h with ⟨rfl, rfl⟩ | ⟨hne, h⟩
      · exact ⟨by rw [if_pos rfl], hm⟩
      · obtain ⟨a, b⟩ := flush_rel hb t v h
        exact ⟨by rw [if_neg (Ne.symm hne)]; exact a, b⟩
    | false =>
      rw [hm] at h
      obtain ⟨a, b⟩ := flush_rel hb t v h
      exact ⟨by rw [if_neg (fun e => by rw [e, b] at hm; cases hm)]; exact a, b⟩
end
end
end Go.X
/- Blocks of other kinds: records of ranges over functions; the marks that these leave. -/
set_option autoImplicit false
set_option linter.unusedVariables false
namespace Go.X
noncomputable section
section
variable {P : Program} {gl : Glob}

theorem frozen_put {w : World} {l : Nat} {o o' : Obj} (h : w.heap[l]? = some o) (ho : ∀ c e fz, o ≠ .cells c e fz) (ho' : ∀ c e fz, o' ≠ .cells c e fz) (a : Addr) : (w.putObj l o').frozen? a = w.frozen? a := by
  by_cases e : a.block = l
  · have h1 : (w.putObj l o').heap[a.block]? = some o' := by rw [e]; exact World.putObj_heap_same (Array.getElem?_eq_some_iff.1 h).1
    have h2 : w.heap[a.block]? = some o := by rw [e]; exact h
    unfold World.frozen?
    rw [h1, h2]
    cases o <;> cases o' <;> first
      | rfl
      | exact absurd rfl (ho _ _ _)
      | exact absurd rfl (ho' _ _ _)
  · exact World.frozen?_of_block (World.putObj_heap_other e)
theorem putObj_size (w : World) (l : Nat) (o : Obj) : (w.putObj l o).heap.size = w.heap.size := by simp [World.putObj]
/-- a block that no name stands for -/
theorem rh_off {L : LM} {h : H} {w : World} {U : Nat} (r : RH L h w U) {D : Nat} (o : Obj) (hd : ∀ i p, L i = some p → p.B ≠ D) : RH L h (w.putObj D o) U where
  mem := fun i k p hi hp => (r.mem i k p hi hp).keep (World.putObj_heap_other (hd i p hp))
  sep := r.sep
  fresh := r.fresh
  below := fun i p h => by rw [putObj_size]; exact r.below i p h
  live := r.live
theorem step_off {L L' : LM} {h h' : H} {w w' : World} (s : Step L L' h h' w w') {D : Nat} (o : Obj) (hd : w.heap.size ≤ D) : Step L L' h h' w (w'.putObj D o) where
  ext := s.ext
  size := by rw [putObj_size]; exact s.size
  keep := fun B hB ho => (World.putObj_heap_other (by omega)).trans (s.keep B hB ho)
  own := s.own
  new := s.new
  next := s.next
  os := s.os
  output := s.output
  tape := s.tape
  fro := fun a ha => (World.frozen?_of_block (World.putObj_heap_other (by omega))).trans (s.fro a ha)

def mark (D : Nat) : Deferred := { target := .collected D, args := #[] }
/-- the marks that a run leaves -/
def DSt (L' : LM) (w : World) (d0 d1 : List Deferred) (w' : World) : Prop := ∃ Ds : List Nat, d1 = Ds.map mark ++ d0 ∧ Ds.Nodup ∧ ∀ D ∈ Ds, w.heap.size ≤ D ∧ w'.heap[D]? = some (.deferred (some [])) ∧ ∀ i p, L' i = some p → p.B ≠ D
theorem DSt.refl (L : LM) (w : World) (d : List Deferred) (w' : World) : DSt L w d d w' := ⟨[], rfl, .nil, fun D h => by cases h⟩
theorem DSt.eq {L : LM} {w : World} {d d1 : List Deferred} {w' : World} (h : d1 = d) : DSt L w d d1 w' := by subst h; exact .refl _ _ _ _
theorem off_step {L L' : LM} {h h' : H} {w w' : World} (s : Step L L' h h' w w') {D : Nat} (hD : w.heap[D]? = some (.deferred (some []))) (hL : ∀ i p, L i = some p → p.B ≠ D) :
    w'.heap[D]? = some (.deferred (some [])) ∧ ∀ i p, L' i = some p → p.B ≠ D := by
  have hlt := (Array.getElem?_eq_some_iff.1 hD).1
  refine ⟨(s.keep D hlt ?_).trans hD, fun i p hp => ?_⟩
  · rintro ⟨i, k, p, _, _, hp, e⟩
    exact hL i p hp e
  · rcases s.new i p hp with h | ⟨_, _, h | ⟨i', k, q, _, _, hq, e⟩⟩
    · exact hL i p h
    · omega
    · rw [← e]; exact hL i' q hq
theorem DSt.step {L L' : LM} {h h' : H} {w w1 w2 : World} {d0 d1 : List Deferred} (d : DSt L w d0 d1 w1) (s : Step L L' h h' w1 w2) : DSt L' w d0 d1 w2 := by
  obtain ⟨Ds, h1, h2, h3⟩ := d
  refine ⟨Ds, h1, h2, fun D hD => ?_⟩
  obtain ⟨a, b, c⟩ := h3 D hD
  exact ⟨a, off_step s b c⟩
theorem DSt.trans {L1 L2 : LM} {h1 h2 : H} {w w1 w2 : World} {d0 d1 d2 : List Deferred} (a : DSt L1 w d0 d1 w1) (hw : w.heap.size ≤ w1.heap.size) (s : Step L1 L2 h1 h2 w1 w2) (b : DSt L2 w1 d1 d2 w2) : DSt L2 w d0 d2 w2 := by
  obtain ⟨Da, a1, a2, a3⟩ := a.step s
  obtain ⟨Db, b1, b2, b3⟩ := b
  obtain ⟨Da', a1', a2', a3'⟩ := a
  have e : Da' = Da := by
    have : Da'.map mark = Da.map mark := List.append_cancel_right (a1'.symm.trans a1)
    have inj : ∀ x y, mark x = mark y → x = y := fun x y h => by cases h; rfl
    have key : ∀ (xs ys : List Nat), xs.map mark = ys.map mark → xs = ys := by
      intro xs
      induction xs with
      | nil => intro ys h; cases ys with | nil => rfl | cons y ys => cases h
      | cons x xs ih =>
        intro ys h
        cases ys with
        | nil => cases h
        | cons y ys =>
          have h : mark x :: xs.map mark = mark y :: ys.map mark := h
          injection h with h1 h2
          rw [inj _ _ h1, ih ys h2]
    exact key _ _ this
  subst e
  refine ⟨Db ++ Da', by rw [b1, a1]; simp, ?_, fun D hD => ?_⟩
  · refine List.nodup_append.2 ⟨b2, a2, fun x hx y hy => ?_⟩
    have h1 := (b3 x hx).1
    have h2 := (Array.getElem?_eq_some_iff.1 (a3' y hy).2.1).1
    omega
  · rcases List.mem_append.1 hD with hD | hD
    · obtain ⟨x, y, z⟩ := b3 D hD
      exact ⟨by omega, y, z⟩
    · exact a3 D hD
theorem DSt.sub {L L' : LM} {w w' : World} {d0 d1 : List Deferred} (d : DSt L w d0 d1 w') (hs : ∀ i p, L' i = some p → (∃ j q, L j = some q ∧ q.B = p.B) ∨ p.B < w.heap.size) : DSt L' w d0 d1 w' := by
  obtain ⟨Ds, h1, h2, h3⟩ := d
  refine ⟨Ds, h1, h2, fun D hD => ?_⟩
  obtain ⟨a, b, c⟩ := h3 D hD
  refine ⟨a, b, fun i p hp => ?_⟩
  rcases hs i p hp with ⟨j, q, hq, e⟩ | h
  · rw [← e]; exact c j q hq
  · omega
/-- a function that leaves marks -/
theorem leave_marks {fn : Func} {tmps : Array Value} {R : Ending → World → Prop} {L : LM} {h0 h : H} {L0 : LM} {w0 : World} {U : Nat} : ∀ {Ds : List Nat} {w : World}, Ds.Nodup → (∀ D ∈ Ds, w0.heap.size ≤ D ∧ w.heap[D]? = some (.deferred (some [])) ∧ ∀ i p, L i = some p → p.B ≠ D) →
    RH L h w U → Step L0 L h0 h w0 w → (∀ w', RH L h w' U → Step L0 L h0 h w0 w' → ∃ v, (results fn tmps).run P w' = .ok v w' ∧ R (.returned v) w') → LeavesInM (WF none) 0 P fn tmps R (Ds.map mark) .returning w
  | [], w, _, _, r, s, hk => hk w r s
  | D :: Ds, w, hn, hd, r, s, hk => by
    obtain ⟨d1, d2, d3⟩ := hd D List.mem_cons_self
    refine ⟨by simp, .inl ⟨D, w.putObj D (.deferred none), rfl, run_takeDeferred d2, ?_⟩⟩
    refine leave_marks (List.nodup_cons.1 hn).2 (fun D' hD' => ?_) (rh_off r _ d3) (step_off s _ d1) hk
    obtain ⟨e1, e2, e3⟩ := hd D' (List.mem_cons_of_mem _ hD')
    have hne : D' ≠ D := fun e => (List.nodup_cons.1 hn).1 (e ▸ hD')
    exact ⟨e1, (World.putObj_heap_other hne).trans e2, e3⟩

/-! Records -/
theorem rh_loop {L : LM} {h : H} {w : World} {U : Nat} (r : RH L h w U) {i : Nat} {p : Loc} {st st' : LoopState} {j j' : Option Code} {mask n : Nat} {env : Env} {ps : List Nat} {asg body : Code}
    (hi : h.b.get i = some (.loop st j mask n env ps asg body)) (hp : L i = some p) {rec : Loop} (hb : w.heap[p.B]? = some (.loop rec)) :
    RH L ⟨h.b.set (.loop st' j' mask n env ps asg body) i, h.next⟩ (w.putObj p.B (.loop { rec with state := st', pending := j' })) U ∧
    Step L L h ⟨h.b.set (.loop st' j' mask n env ps asg body) i, h.next⟩ w (w.putObj p.B (.loop { rec with state := st', pending := j' })) := by
  have hlt := (Array.getElem?_eq_some_iff.1 hb).1
  have h1 : (w.putObj p.B (.loop { rec with state := st', pending := j' })).heap[p.B]? = some (.loop { rec with state := st', pending := j' }) := World.putObj_heap_same hlt
  have apart : ∀ l kl q, l ≠ i → h.b.get l = some kl → L l = some q → q.B ≠ p.B := by
    intro l kl q hli hl hq e
    obtain ⟨_, _, hm⟩ := r.sep i l _ _ p q hi hl hp hq (Ne.symm hli) rfl e.symm
    cases hm
  refine ⟨⟨?_, ?_, r.fresh, fun l q hq => by rw [putObj_size]; exact r.below l q hq, ?_⟩, ⟨Ext.refl L, by rw [putObj_size]; exact Nat.le_refl _, ?_, ?_, fun _ _ h => .inl h, Nat.le_refl _, rfl, rfl, rfl, fun a _ => ?_⟩⟩
  · intro l k q hl hq
    rcases T.get_set hl with ⟨rfl, rfl⟩ | ⟨hli, hl⟩
    · rw [hp] at hq; cases hq
      obtain ⟨r0, e1, ⟨_, _, e2⟩, e3⟩ := r.mem _ _ _ hi hp
      rw [hb] at e1; cases e1
      exact ⟨_, h1, ⟨rfl, rfl, e2⟩, e3⟩
    · exact (r.mem _ _ _ hl hq).keep (World.putObj_heap_other (apart l k q hli hl hq))
  · intro l m kl km q s hl hm hq hs hlm hw hB
    have back : ∀ {l k}, (h.b.set (.loop st' j' mask n env ps asg body) i).get l = some k → ∃ k0, h.b.get l = some k0 ∧ k0.wr = k.wr ∧ k0.ps = k.ps := by
      intro l k hk
      rcases T.get_set hk with ⟨rfl, rfl⟩ | ⟨_, hk⟩
      · exact ⟨_, hi, rfl, rfl⟩
      · exact ⟨k, hk, rfl, rfl⟩
    obtain ⟨kl0, a1, a2, a3⟩ := back hl
    obtain ⟨km0, b1, b2, b3⟩ := back hm
    obtain ⟨x, y, z⟩ := r.sep l m _ _ q s a1 b1 hq hs hlm (a2.trans hw) hB
    exact ⟨b2 ▸ x, y, a3 ▸ z⟩
  · intro l k hl
    rcases T.get_set hl with ⟨rfl, _⟩ | ⟨_, hl⟩
    · exact r.live _ _ hi
    · exact r.live _ _ hl
  · intro B hB ho
    exact World.putObj_heap_other fun e => ho ⟨i, _, p, hi, rfl, hp, e.symm⟩
  · rintro B ⟨l, k, q, hl, hw, hq, rfl⟩ _
    rcases T.get_set hl with ⟨rfl, rfl⟩ | ⟨hli, hl⟩
    · exact ⟨l, _, q, hi, rfl, hq, rfl⟩
    · exact ⟨l, k, q, hl, hw, hq, rfl⟩
  · exact frozen_put hb (fun _ _ _ h => by cases h) (fun _ _ _ h => by cases h) a
/-- the record is let go -/
theorem rh_drop {L : LM} {h : H} {w : World} {U : Nat} (r : RH L h w U) {i : Nat} {p : Loc} {k : Blk} (hi : h.b.get i = some k) (hw : k.wr = true) (hps : k.ps = []) (hp : L i = some p) (o : Obj)
    (hf : ∀ a, (w.putObj p.B o).frozen? a = w.frozen? a) :
    RH L ⟨h.b.del i, h.next⟩ (w.putObj p.B o) U ∧ Step L L h ⟨h.b.del i, h.next⟩ w (w.putObj p.B o) := by
  have apart : ∀ l kl q, l ≠ i → h.b.get l = some kl → L l = some q → q.B ≠ p.B := by
    intro l kl q hli hl hq e
    obtain ⟨_, _, hm⟩ := r.sep i l _ _ p q hi hl hp hq (Ne.symm hli) hw e.symm
    rw [hps] at hm; cases hm
  refine ⟨⟨?_, ?_, r.fresh, fun l q hq => by rw [putObj_size]; exact r.below l q hq, ?_⟩, ⟨Ext.refl L, by rw [putObj_size]; exact Nat.le_refl _, ?_, ?_, fun _ _ h => .inl h, Nat.le_refl _, rfl, rfl, rfl, fun a _ => hf a⟩⟩
  · intro l k q hl hq
    obtain ⟨hli, hl⟩ := T.get_del hl
    exact (r.mem _ _ _ hl hq).keep (World.putObj_heap_other (apart l k q hli hl hq))
  · intro l m kl km q s hl hm hq hs hlm hw hB
    exact r.sep l m kl km q s (T.get_del hl).2 (T.get_del hm).2 hq hs hlm hw hB
  · intro l k hl
    exact r.live _ _ (T.get_del hl).2
  · intro B hB ho
    exact World.putObj_heap_other fun e => ho ⟨i, k, p, hi, hw, hp, e.symm⟩
  · rintro B ⟨l, k, q, hl, hw, hq, rfl⟩ _
    exact ⟨l, k, q, (T.get_del hl).2, hw, hq, rfl⟩
theorem par_size {ps : Array Nat} {args : Array Value} : ∀ {tmps : Array Value}, ((ps.zip args).foldl (fun tmps (t, a) => tmps.setIfInBounds t a) tmps).size = tmps.size := by
  intro tmps
  rw [← Array.foldl_toList]
  generalize (ps.zip args).toList = l
  induction l generalizing tmps with
  | nil => rfl
  | cons x l ih => rw [List.foldl_cons, ih]; simp
theorem par_rel {L : LM} {mask : Nat} : ∀ {ps : List Nat} {args : List AV} {args' : List Value} {env : Env} {tmps : Array Value}, RVs L args args' → parOK tmps.size ps = true → args.length = ps.length →
    (∀ t v, T.get env t = some v → RV L v (tmps.getD t undef) ∧ bit mask t = true) →
    ∀ t v, T.get (parEnv mask ps args env) t = some v → RV L v (((ps.zip args').foldl (fun tmps (t, a) => tmps.setIfInBounds t a) tmps).getD t undef) ∧ bit mask t = true
  | [], args, args', env, tmps, hr, hok, hl, hre, t, v, ht => by
    have ht : T.get env t = some v := ht
    exact hre t v ht
  | p :: ps, [], args', env, tmps, hr, hok, hl, hre, t, v, ht => by simp at hl
  | p :: ps, a :: args, args', env, tmps, hr, hok, hl, hre, t, v, ht => by
    cases hr with
    | cons _ x _ xs hx hxs =>
      have hok : Bool.and (Nat.ble (Nat.succ p) tmps.size) (parOK tmps.size ps) = true := hok
      obtain ⟨ho1, ho2⟩ := band' hok
      have hp : p < tmps.size := Nat.le_of_ble_eq_true ho1
      have ht : T.get (parEnv mask ps args (Bool.rec env (T.set env a p) (bit mask p))) t = some v := ht
      rw [List.zip_cons_cons, List.foldl_cons]
      refine par_rel hxs (by simpa using ho2) (by simpa using hl) (fun u y hu => ?_) t v ht
      have hget : ∀ u, (tmps.setIfInBounds p x).getD u undef = if p = u then x else tmps.getD u undef := by
        intro u
        simp only [Array.getD_eq_getD_getElem?, Array.getElem?_setIfInBounds]
        by_cases h : p = u
        · subst h; simp [hp]
        · simp [h]
      rw [hget]
      cases hb : bit mask p with
      | true =>
        rw [hb] at hu
        rcases T.get_set hu with ⟨rfl, rfl⟩ | ⟨hne, hu⟩
        · rw [if_pos rfl]; exact ⟨hx, hb⟩
        · rw [if_neg (Ne.symm hne)]; exact hre u y hu
      | false =>
        rw [hb] at hu
        obtain ⟨h1, h2⟩ := hre u y hu
        rw [if_neg (fun e => by rw [e, h2] at hb; cases hb)]; exact ⟨h1, h2⟩
end
end
end Go.X
/- Code and calls: the executor's are the model's. -/
set_option autoImplicit false
namespace Go.X
noncomputable section
section
variable {P : Program} {gl : Glob}

/-- a region that draws its order -/
def DrawOK (P : Program) (gl : Glob) (m : Bool) : Prop := ∀ {ro : Option Nat} {call : XCall}, CallsOK P gl call → SplCall call → ∀ {n : Nat} {env : Env} {id : Nat} {ops : Array Oper} {h : H} {ds : List Bool}
  {K : Lo → H → List Bool → Prop} {Q : Exit → Act → World → Prop} {D : List Deferred} {U : Nat} {L : LM} {a : Act} {w : World},
  xdraw m P gl call n env ops.toList h ds K → (∀ loc h ds, K loc h ds → h.next ≤ U) → RG L gl → RL L [] env a → a.tmps.size = n → a.defers = D → RH L h w U →
  (∀ loc h' ds' L' a' w', K loc h' ds' → RL L' loc env a' → a'.tmps.size = n → a'.defers = D → RH L' h' w' U → Step L L' h h' w w' → Q .normal a' w') →
  (Code.region id ops true).wpIn (WF ro) 0 P Q a w

def XE.exit (x : XE) : Exit := match x with
  | .nrm => .normal
  | .ext i => .exit i
  | .gto i => .goto i
  | .ret => .ret

/-- what a run of code comes to -/
def CPost (K : KE) (U : Nat) (L : LM) (h : H) (w : World) (d : List Deferred) (mask n : Nat) (e : Exit) (a' : Act) (w' : World) : Prop :=
  ∃ x env' h' ds' L', e = XE.exit x ∧ K x env' h' ds' ∧ RE' L' mask env' a' ∧ a'.tmps.size = n ∧ DSt L' w d a'.defers w' ∧ RH L' h' w' U ∧ Step L L' h h' w w'
/-- a piece of a code -/
inductive Inc (b : Code) : Code → Prop where
  | here : Inc b b
  | seql {x y : Code} (h : Inc b (.seq x y)) : Inc b x
  | seqr {x y : Code} (h : Inc b (.seq x y)) : Inc b y
  | condl {c : Operand} {x y : Code} (h : Inc b (.cond c x y)) : Inc b x
  | condr {c : Operand} {x y : Code} (h : Inc b (.cond c x y)) : Inc b y
  | block {id : Nat} {x : Code} (h : Inc b (.block id x)) : Inc b x
  | loop {x : Code} (h : Inc b (.loop x)) : Inc b x
  | scope {x : Code} (h : Inc b (.scope x)) : Inc b x
/-- a piece of a function's body -/
def Sub (C : Cfg) (P : Program) (f : Nat) (c : Code) (mask n : Nat) : Prop := ∃ fn b, P.funcs[f]? = some fn ∧ fn.body = some b ∧ mask = C.mask f ∧ n = fn.ntmps ∧ Inc b c
theorem Sub.map {C : Cfg} {f : Nat} {c c' : Code} {mask n : Nat} (s : Sub C P f c mask n) (h : ∀ b, Inc b c → Inc b c') : Sub C P f c' mask n :=
  let ⟨fn, b, h1, h2, h3, h4, h5⟩ := s
  ⟨fn, b, h1, h2, h3, h4, h b h5⟩
def CodeOK (C : Cfg) (P : Program) (gl : Glob) (X : XCode) : Prop := ∀ ro f code mask n env h ds (K : KE), (Nat.ble (Nat.succ f) YK = true → ro = none ∧ Sub C P f code mask n) → X f code mask n env h ds K → ∀ (L : LM) (a : Act) (w : World) (U : Nat),
  (∀ x e h' ds', K x e h' ds' → h'.next ≤ U) → RG L gl → RE' L mask env a → a.tmps.size = n → RH L h w U → code.wpIn (WF ro) 0 P (CPost K U L h w a.defers mask n) a w

theorem fenced_WF {ro : Option Nat} (m : Machine) : m.fenced P (WF ro) := by
  intro g _
  refine ⟨fun h => by simp [WF] at h, Or.inl trivial, fun _ _ => trivial, room_WF _ _⟩
/-- a loop that has entered a round -/
def LoopWp (ro : Option Nat) (P : Program) (c : Code) (Q : Exit → Act → World → Prop) (a : Act) (w : World) : Prop := ∀ (b : Frame) (k : List Item) (cs : List Frame), b.roundOf = ro →
  ∃ e a' w', Q e a' w' ∧ ArrivesIn (Machine.fenced P (WF ro)) P (lone (b.atR a (.code c :: .inLoop c :: k)) cs w) b k cs e a' w'
theorem LoopWp.wp {ro : Option Nat} {c : Code} {Q : Exit → Act → World → Prop} {a : Act} {w : World} (h : LoopWp ro P c Q a w) : (Code.loop c).wpIn (WF ro) 0 P Q a w := fun b k cs hro _ _ =>
  let ⟨e, a', w', q, r⟩ := h b k cs hro
  ⟨e, a', w', q, .of_steps (.one (fenced_WF _) stepR_loop) r⟩
theorem LoopWp.round {ro : Option Nat} {c : Code} {Q : Exit → Act → World → Prop} {a : Act} {w : World} (h : c.wpIn (WF ro) 0 P (Exit.then (LoopWp ro P c Q) Q) a w) : LoopWp ro P c Q a w := by
  intro b k cs hro
  obtain ⟨e, a₁, w₁, hq, harr⟩ := h b (.inLoop c :: k) cs hro trivial (room_WF _ _)
  cases e with
  | normal =>
    obtain ⟨e₂, a₂, w₂, hq₂, harr₂⟩ := hq b k cs hro
    exact ⟨e₂, a₂, w₂, hq₂, .of_steps (StepsIn.trans harr (.one (fenced_WF _) stepR_inLoop)) harr₂⟩
  | exit id => exact ⟨_, a₁, w₁, hq, .pass (x := .inLoop c) rfl (fun _ _ => .inl (by simp)) harr⟩
  | goto l => exact ⟨_, a₁, w₁, hq, .pass (x := .inLoop c) rfl (fun _ _ => .inl (by simp)) harr⟩
  | ret => exact ⟨_, a₁, w₁, hq, .pass (x := .inLoop c) rfl (fun _ _ => .inl (by simp)) harr⟩
  | panic ch => exact ⟨_, a₁, w₁, hq, .pass (x := .inLoop c) rfl (fun _ _ => .inl (by simp)) harr⟩
  | outgrown => exact ⟨_, a₁, w₁, hq, .pass (x := .inLoop c) rfl (fun _ _ => .inl (by simp)) harr⟩
theorem LoopWp.mono {ro : Option Nat} {c : Code} {Q Q' : Exit → Act → World → Prop} {a : Act} {w : World} (h : LoopWp ro P c Q a w) (hq : ∀ e a w, Q e a w → Q' e a w) : LoopWp ro P c Q' a w := fun b k cs hro =>
  let ⟨e, a', w', q, r⟩ := h b k cs hro
  ⟨e, a', w', hq _ _ _ q, r⟩

theorem CPost.here {K : KE} {U : Nat} {L : LM} {h : H} {w : World} {mask n : Nat} {x : XE} {env : Env} {ds : List Bool} {a : Act} (hk : K x env h ds) (r : RE' L mask env a) (hn : a.tmps.size = n)
    (rh : RH L h w U) : CPost K U L h w a.defers mask n (XE.exit x) a w := ⟨x, env, h, ds, L, rfl, hk, r, hn, .refl _ _ _ _, rh, Step.refl L h w⟩
theorem CPost.lift {K K' : KE} {U : Nat} {L L' : LM} {h h' : H} {w w' : World} {d d' : List Deferred} {mask n : Nat} {e : Exit} {a : Act} {w2 : World} (s : Step L L' h h' w w') (hd : DSt L' w d d' w') (hK : ∀ x e h ds, K x e h ds → K' x e h ds)
    (c : CPost K U L' h' w' d' mask n e a w2) : CPost K' U L h w d mask n e a w2 := by
  obtain ⟨x, env, h2, ds, L2, a1, a2, a3, a4, a5, a6, a7⟩ := c
  exact ⟨x, env, h2, ds, L2, a1, hK _ _ _ _ a2, a3, a4, hd.trans s.size a7 a5, a6, s.trans a7⟩

theorem get_argEnv {mask : Nat} : ∀ {args : List AV} {k t : Nat} {v : AV},
    T.get (List.rec (motive := fun _ => Nat → Env) (fun _ => T.leaf) (fun a _ ih k => Bool.rec (ih (Nat.succ k)) (T.set (ih (Nat.succ k)) a k) (bit mask k)) args k) t = some v →
    ∃ j, t = k + j ∧ args[j]? = some v ∧ bit mask t = true
  | [], k, t, v, h => by cases t <;> cases h
  | a :: args, k, t, v, h => by
    dsimp only at h
    cases hb : bit mask k with
    | false =>
      rw [hb] at h
      obtain ⟨j, e1, e2, e3⟩ := get_argEnv (args := args) h
      exact ⟨j + 1, by omega, by simpa using e2, e3⟩
    | true =>
      rw [hb] at h
      rcases T.get_set h with ⟨rfl, rfl⟩ | ⟨_, h⟩
      · exact ⟨0, rfl, rfl, hb⟩
      · obtain ⟨j, e1, e2, e3⟩ := get_argEnv (args := args) h
        exact ⟨j + 1, by omega, by simpa using e2, e3⟩

def resF (tmps : Array Value) (r : ResultVar) : Sem Value := match r with
  | .tmp t => pure (tmps.getD t undef)
  | .cell a t => do loadVar t (← asAddr (tmps.getD a undef))
theorem results_eq (fn : Func) (tmps : Array Value) : results fn tmps = (do
    let vs ← fn.results.mapM (resF tmps)
    pure (if h : vs.size = 1 then vs[0] else .tuple vs)) := rfl
theorem resF_cell {tmps : Array Value} {x : Nat} {t : TypeId} {v' : Value} {w : World} (b2 : (Instr.loadAt t (tmps.getD x undef)).run P w = .ok v' w) : (resF tmps (.cell x t)).run P w = .ok v' w := by
  unfold resF
  dsimp only
  generalize tmps.getD x undef = y at b2 ⊢
  cases y with
  | pointer o => cases o with
    | none => simp [Instr.loadAt, Instr.sureAddr, stuck] at b2
    | some y => rw [← b2]; simp [Instr.loadAt, Instr.sureAddr, asAddr]
  | _ => simp [Instr.loadAt, Instr.sureAddr, stuck] at b2
theorem xres_list {m : Bool} {L : LM} {h : H} {w : World} {U : Nat} (rh : RH L h w U) {mask : Nat} {env : Env} {a : Act} (r : RE' L mask env a) {ds : List Bool} : ∀ {rs : List ResultVar} {K : List AV → Prop},
    xres m P env h ds rs K → ∃ vs vs', K vs ∧ RVs L vs vs' ∧ (rs.mapM (resF a.tmps)).run P w = .ok vs' w
  | [], K, hk => ⟨[], [], hk, .nil, by simp⟩
  | res :: rs, K, hk => by
    cases res with
    | tmp t =>
      have hk : xres m P env h ds rs (fun vs => K (eget env t :: vs)) := hk
      obtain ⟨vs, vs', a1, a2, a3⟩ := xres_list rh r hk
      refine ⟨_, _, a1, .cons _ _ _ _ (eget_rel r t) a2, ?_⟩
      have : (resF a.tmps (.tmp t)).run P w = .ok (a.tmps.getD t undef) w := rfl
      simp [List.mapM_cons, a3, this]
    | cell x t =>
      have hk : xload m P t (eget env x) h ds (fun v _ _ => xres m P env h ds rs fun vs => K (v :: vs)) := hk
      obtain ⟨v, ds', v', b1, b2, b3⟩ := xload_ro rh (eget_rel r x) hk
      obtain ⟨vs, vs', a1, a2, a3⟩ := xres_list rh r b1
      refine ⟨_, _, a1, .cons _ _ _ _ b3 a2, ?_⟩
      simp [List.mapM_cons, a3, resF_cell b2]
theorem xres_sound {m : Bool} {L : LM} {h : H} {w : World} {U : Nat} (rh : RH L h w U) {mask : Nat} {env : Env} {a : Act} (r : RE' L mask env a) {ds : List Bool} {fn : Func} {K : AV → Prop}
    (hk : xres m P env h ds fn.results.toList fun vs => K (one1 vs)) : ∃ v v', K v ∧ RV L v v' ∧ (results fn a.tmps).run P w = .ok v' w := by
  obtain ⟨vs, vs', a1, a2, a3⟩ := xres_list rh r hk
  rw [results_eq]
  have a3 : (fn.results.mapM (resF a.tmps)).run P w = .ok vs'.toArray w := by
    rw [Array.mapM_eq_mapM_toList]; simp [a3]
  cases a2 with
  | nil => exact ⟨_, _, a1, .tup [] #[] .nil, by simp [a3]⟩
  | cons x y xs ys hx hxs =>
    cases hxs with
    | nil => exact ⟨_, _, a1, hx, by simp [a3]⟩
    | cons x2 y2 xs ys hx2 hxs => exact ⟨_, _, a1, .tup _ (y :: y2 :: ys).toArray (.cons _ _ _ _ hx (.cons _ _ _ _ hx2 hxs)), by simp [a3]⟩

/-- what a loop's contract says is so -/
def LoopOK (P : Program) (gl : Glob) (c : Code) (mask n : Nat) (l : LCon) : Prop := ∀ env h ds (K : KE), l env h ds K → ∀ (L : LM) (a : Act) (w : World) (U : Nat),
  (∀ x e h' ds', K x e h' ds' → h'.next ≤ U) → RG L gl → RE' L mask env a → a.tmps.size = n → RH L h w U → LoopWp none P c (CPost K U L h w a.defers mask n) a w
/-- contracts are true -/
structure ConOK (C : Cfg) (P : Program) : Prop where
  con : ∀ f c, C.con f = some c → ∀ args h ds KV, c args h ds KV → CallOK P C.gl f args h KV
  lc : ∀ f k l, C.lc f k = some l → ∀ c mask n, Sub C P f (.loop c) mask n → fid c = k → LoopOK P C.gl c mask n l
theorem stepR_scope {b : Frame} {a : Act} {k : List Item} {cs : List Frame} {w : World} {c : Code} : step P (lone (b.atR a (.code (.scope c) :: k)) cs w) = .next (lone (b.atR a (.code c :: .inScope c :: k)) cs w) :=
  step_lone_go (by simp [stepG, stepG.exec, Frame.atR])
theorem stepR_inScope {b : Frame} {a : Act} {k : List Item} {cs : List Frame} {w : World} {c : Code} : step P (lone (b.atR a (.inScope c :: k)) cs w) = .next (lone (b.atR a k) cs w) :=
  step_lone_go (by simp [stepG, stepG.exec, Frame.atR])
theorem wpIn_scope {ro : Option Nat} {c : Code} {Q : Exit → Act → World → Prop} {a : Act} {w : World} (h : c.wpIn (WF ro) 0 P (Exit.noGoto Q) a w) : (Code.scope c).wpIn (WF ro) 0 P Q a w := by
  intro b k cs hro hb hr
  obtain ⟨e, a₁, w₁, hq, harr⟩ := h b (.inScope c :: k) cs hro hb hr
  have h0 := fenced_WF (P := P) (ro := ro) (lone (b.atR a (.code (.scope c) :: k)) cs w)
  cases e with
  | normal => exact ⟨.normal, a₁, w₁, hq, .head h0 stepR_scope (StepsIn.trans harr (.one (fenced_WF _) stepR_inScope))⟩
  | exit id =>
    have hx : exitTo id (.inScope c :: k) = exitTo id k := by simp [exitTo]
    exact ⟨.exit id, a₁, w₁, hq, fun k' hk => .head h0 stepR_scope (harr.1 k' (by rw [hx]; exact hk)),
      fun hr' hk => let ⟨k₁, h1, h2⟩ := harr.2 hr' (by rw [hx]; exact hk); ⟨k₁, h1, .head h0 stepR_scope h2⟩⟩
  | goto l => exact hq.elim
  | ret => exact ⟨_, a₁, w₁, hq, .of_steps (.one h0 stepR_scope) harr⟩
  | panic ch => exact ⟨_, a₁, w₁, hq, .of_steps (.one h0 stepR_scope) harr⟩
  | outgrown => exact ⟨_, a₁, w₁, hq, .of_steps (.one h0 stepR_scope) harr⟩
theorem xround_sound {C : Cfg} {X : XCode} (hS : SplCode X) (hX : CodeOK C P C.gl X) {i : Nat} {args : List AV} {h : H} {ds : List Bool} {KV : KV} (hk : xround X i args h ds KV) : RoundOK P C.gl i args h KV := by
  intro L w args' U p rg hargs rh hU hp
  obtain ⟨j, mask, n, env, ps, asg, body, e, h1, ds1, j2, mask2, n2, env2, ps2, asg2, body2, x, e3, h3, ds3, j3, mask3, n3, env3, ps3, asg3, body3, a1, a2, a3, a4, a5, a6, a7, a8, a9, a10⟩ := xround_split hS hk
  have hU3 : h3.next ≤ U := by
    rcases a10 with ⟨_, hK⟩ | ⟨_, hK⟩
    · have := hU _ _ _ hK; exact this
    · have := hU _ _ _ hK; exact this
  obtain ⟨r0, b1, ⟨b2, b3, b4, b5, b6, b7⟩, b8⟩ := rh.mem _ _ _ a1 hp
  have hlen : args.length = ps.length := by
    have := Nat.eq_of_beq_eq_true a2
    rwa [llen_eq, llen_eq] at this
  have hsz : args'.size = r0.params.size := by
    have h1 := hargs.length
    have h2 : r0.params.toList.length = ps.length := by rw [b4]
    simp at h1 h2
    omega
  refine ⟨_, _, _, _, run_yield b1 hsz, fun ro => ?_⟩
  have hfold : (r0.params.zip args').foldl (fun tmps (x : Tmp × Value) => tmps.setIfInBounds x.1 x.2) r0.tmps = ((ps.zip args'.toList).foldl (fun tmps (x : Tmp × Value) => tmps.setIfInBounds x.1 x.2) r0.tmps) := by
    rw [← Array.foldl_toList, Array.toList_zip, b4]
  refine roundIn_of_wpIn (F := WF ro) (n := 0) trivial ?_
  subst b5 b6
  refine wpIn_mono (hX (some p.B) YK _ mask n _ h ds (fun x' e' h' ds' => x' = .nrm ∧ e' = e ∧ h' = h1 ∧ ds' = ds1) (fun hf => by cases hf) (a4 _ ⟨rfl, rfl, rfl, rfl⟩) L _ w U (fun _ _ _ _ hx => by rw [hx.2.2.1]; omega) rg ?_ ?_ rh) ?_
  · refine ⟨fun t v ht => ?_, fun t v ht => ?_⟩
    · have := (par_rel (tmps := r0.tmps) hargs (by rw [b7]; exact a3) hlen b8 t v ht).1
      rw [← hfold] at this
      exact this
    · exact (par_rel (tmps := r0.tmps) hargs (by rw [b7]; exact a3) hlen b8 t v ht).2
  · exact par_size.trans b7
  rintro ex a' w1 ⟨x', env', h', ds', L1, rfl, ⟨rfl, rfl, rfl, rfl⟩, k2, k3, k4, k5, k6⟩
  have hp1 := k6.ext _ _ hp
  obtain ⟨r1, c1, ⟨c2, c3, c4⟩, c5⟩ := k5.mem _ _ _ a6 hp1
  refine ⟨_, run_beginRound c1 c2, ?_⟩
  obtain ⟨rh2, st2⟩ := rh_loop (st' := .busy) (j' := r1.pending) k5 a6 hp1 c1
  have rh2 : RH L1 ⟨h'.b.set (.loop .busy j2 mask2 n2 env2 ps2 asg2 body2) i, h'.next⟩ (w1.putObj p.B (.loop { r1 with state := .busy })) U := by rw [← c3]; exact rh2
  have st2 : Step L1 L1 h' ⟨h'.b.set (.loop .busy j2 mask2 n2 env2 ps2 asg2 body2) i, h'.next⟩ w1 (w1.putObj p.B (.loop { r1 with state := .busy })) := by rw [← c3]; exact st2
  refine wpIn_mono (hX (some p.B) YK _ mask n _ _ _ (fun x' e' h' ds' => x' = x ∧ e' = e3 ∧ h' = h3 ∧ ds' = ds3) (fun hf => by cases hf) (a7 _ ⟨rfl, rfl, rfl, rfl⟩) L1 _ _ U (fun _ _ _ _ hx => by rw [hx.2.2.1]; exact hU3) (rg.mono k6.ext) k2 k3 rh2) ?_
  rintro ex a3' w3 ⟨x', env', h', ds', L3, rfl, ⟨rfl, rfl, rfl, rfl⟩, m2, m3, m4, m5, m6⟩
  have hp3 := m6.ext _ _ hp1
  obtain ⟨r3, d1, ⟨d2, d3, d4⟩, d5⟩ := m5.mem _ _ _ a9 hp3
  have fin : ∀ (jump : Option Code) (b : Bool), b = jump.isNone → KV (.bool b) ⟨h'.b.set (.loop (if jump.isNone then .ready else .done) jump mask3 n3 env3 ps3 asg3 body3) i, h'.next⟩ ds' →
      ∃ v w', (Instr.endRound p.B jump).run P w3 = .ok v w' ∧ ∃ v2 h2 ds2 L2 v', Ending.returned v = .returned v' ∧ KV v2 h2 ds2 ∧ RV L2 v2 v' ∧ RH L2 h2 w' U ∧ Step L L2 h h2 w w' := by
    intro jump b hb hK
    obtain ⟨rh4, st4⟩ := rh_loop (st' := if jump.isNone then .ready else .done) (j' := jump) m5 a9 hp3 d1
    exact ⟨_, _, run_endRound jump d1, _, _, _, L3, _, rfl, hK, by rw [hb]; exact .bool _, rh4, ((k6.trans st2).trans m6).trans st4⟩
  cases x' with
  | nrm =>
    rcases a10 with ⟨_, hK⟩ | ⟨hx, hK⟩
    · exact fin none true rfl hK
    · exact absurd rfl hx
  | ext id =>
    rcases a10 with ⟨hx, hK⟩ | ⟨_, hK⟩
    · cases hx
    · exact fin (some (.exit id)) false rfl hK
  | gto l =>
    rcases a10 with ⟨hx, hK⟩ | ⟨_, hK⟩
    · cases hx
    · exact fin (some (.goto l)) false rfl hK
  | ret =>
    rcases a10 with ⟨hx, hK⟩ | ⟨_, hK⟩
    · cases hx
    · exact fin (some .ret) false rfl hK
theorem xfun_sound {C : Cfg} (hC : ConOK C P) {X : XCode} (hS : SplCode X) (hX : CodeOK C P C.gl X) : CallsOK P C.gl (xfun C P X) where
  fn := by
    intro f args h ds KV hf0 hk
    unfold xfun at hk
    rw [hf0] at hk
    cases he : enterable P f with
    | false => rw [he] at hk; exact hk.elim
    | true =>
    rw [he] at hk
    refine ⟨rfl, ?_⟩
    cases hc : C.con f with
    | some c => simp only [hc] at hk; exact hC.con f c hc args h ds KV hk
    | none =>
      simp only [hc] at hk
      cases hf : P.funcs[f]? with
      | none => simp only [hf] at hk
      | some fn =>
        simp only [hf] at hk
        cases hb : fn.body with
        | none => simp only [hb] at hk
        | some b =>
          simp only [hb] at hk
          cases hl : Nat.ble (llen args) fn.ntmps with
          | false => rw [hl] at hk; exact hk.elim
          | true =>
            rw [hl] at hk
            have hl := Nat.le_of_ble_eq_true hl
            rw [llen_eq] at hl
            intro L w args' U rg hargs rh hU
            have hsz : args'.size = args.length := by have := hargs.length; simpa using this.symm
            refine callsOfWF (n := 0) (callsIn_of_wp_marks hf hb trivial (wpIn_mono (hX none _ _ _ _ _ _ _ _ (fun _ => ⟨rfl, fn, b, hf, hb, rfl, rfl, .here⟩) hk L _ w U ?_ rg ?_ ?_ rh) ?_) rfl)
            · intro x e h' ds' hx
              cases x <;> first
                | exact hx.elim
                | (obtain ⟨vs, a, _⟩ := xres_split hx; exact hU _ _ _ a)
            · refine ⟨fun t v ht => ?_, fun t v ht => ?_⟩
              · obtain ⟨j, rfl, e2, _⟩ := get_argEnv ht
                obtain ⟨v', a, b⟩ := hargs.get e2
                have hj : j < args'.size := by have := (List.getElem?_eq_some_iff.1 a).1; simpa using this
                have a : args'[j]? = some v' := by simpa using a
                rw [Nat.zero_add, Array.getD_eq_getD_getElem?, Array.getElem?_append_left hj, a]
                exact b
              · obtain ⟨j, _, _, e3⟩ := get_argEnv ht
                exact e3
            · simp; omega
            · rintro e a' w' ⟨x, env', h', ds', L', rfl, k1, k2, k3, ⟨Ds, k4, k4b, k4c⟩, k5, k6⟩
              have k4 : a'.defers = Ds.map mark := by rw [k4]; simp
              cases x <;> first
                | exact k1.elim
                | (show LeavesInM (WF none) 0 P fn a'.tmps _ a'.defers .returning w'
                   rw [k4]
                   refine leave_marks k4b k4c k5 k6 fun w2 r2 s2 => ?_
                   obtain ⟨v, v', q1, q2, q3⟩ := xres_sound (K := fun v => KV v h' ds') r2 k2 k1
                   exact ⟨v', q3, v, h', ds', L', v', rfl, q1, q2, r2, s2⟩)
  rnd := by
    intro i args h ds KV hk
    unfold xfun at hk
    rw [show Nat.ble (Nat.succ (Nat.add YK i)) YK = false by
      cases hb : Nat.ble (Nat.succ (Nat.add YK i)) YK with
      | false => rfl
      | true =>
        have := Nat.le_of_ble_eq_true hb
        have : YK + i + 1 ≤ YK := this
        omega] at hk
    have e : Nat.sub (Nat.add YK i) YK = i := Nat.add_sub_cancel_left YK i
    have hk : xround X (Nat.sub (Nat.add YK i) YK) args h ds KV := hk
    rw [e] at hk
    exact xround_sound hS hX hk

theorem xcode_both {C : Cfg} (hC : ConOK C P) (hS : SplCon C) (hD : DrawOK P C.gl C.mode) : ∀ fuel, CodeOK C P C.gl (xcode C P fuel) ∧
    ∀ ro f c mask n env h ds (K : KE), (Nat.ble (Nat.succ f) YK = true → ro = none ∧ Sub C P f (.loop c) mask n) → xcode C P fuel f (.loop c) mask n env h ds K → ∀ (L : LM) (a : Act) (w : World) (U : Nat),
      (∀ x e h' ds', K x e h' ds' → h'.next ≤ U) → RG L C.gl → RE' L mask env a → a.tmps.size = n → RH L h w U → LoopWp ro P c (CPost K U L h w a.defers mask n) a w
  | 0 => ⟨fun _ _ _ _ _ _ _ _ _ _ hk => hk.elim, fun _ _ _ _ _ _ _ _ _ _ hk => hk.elim⟩
  | fuel + 1 => by
    obtain ⟨ih, ihl⟩ := xcode_both hC hS hD fuel
    have isp := xcode_spl (P := P) hS fuel
    have hcall := xfun_sound hC isp ih
    have hcs := xfun_spl (P := P) hS isp
    have loop : ∀ ro f c mask n env h ds (K : KE), (Nat.ble (Nat.succ f) YK = true → ro = none ∧ Sub C P f (.loop c) mask n) → xcode C P (fuel + 1) f (.loop c) mask n env h ds K → ∀ (L : LM) (a : Act) (w : World) (U : Nat),
      (∀ x e h' ds', K x e h' ds' → h'.next ≤ U) → RG L C.gl → RE' L mask env a → a.tmps.size = n → RH L h w U → LoopWp ro P c (CPost K U L h w a.defers mask n) a w := by
      intro ro f c mask n env h ds K sb hk L a w U hU rg re hn rh
      have hk : (match (Bool.rec none (C.lc f (fid c)) (Nat.ble (Nat.succ f) YK) : Option LCon) with
        | some l => l env h ds K
        | none => xcode C P fuel f c mask n env h ds fun x env h ds => match x with
          | .nrm => xcode C P fuel f (.loop c) mask n env h ds K
          | x => K x env h ds) := hk
      cases hl : (Bool.rec none (C.lc f (fid c)) (Nat.ble (Nat.succ f) YK) : Option LCon) with
      | some l =>
        rw [hl] at hk
        cases hb : Nat.ble (Nat.succ f) YK with
        | false => rw [hb] at hl; cases hl
        | true =>
          rw [hb] at hl
          obtain ⟨hro, sb2⟩ := sb hb
          subst hro
          exact hC.lc f _ l hl c mask n sb2 rfl env h ds K hk L a w U hU rg re hn rh
      | none =>
      rw [hl] at hk
      have hk : xcode C P fuel f c mask n env h ds (fun x env h ds => match x with
        | .nrm => xcode C P fuel f (.loop c) mask n env h ds K
        | x => K x env h ds) := hk
      refine .round (wpIn_mono (ih _ _ _ _ _ _ _ _ _ (fun hf => (sb hf).imp (fun x => x) fun s => s.map fun _ => .loop) hk L a w U ?_ rg re hn rh) ?_)
      · intro x e h' ds' hx
        cases x with
        | nrm =>
          obtain ⟨x2, e2, h2, ds2, q1, q2, _⟩ := isp _ _ _ _ _ _ _ _ hx
          exact Nat.le_trans q2 (hU _ _ _ _ q1)
        | _ => exact hU _ _ _ _ hx
      · rintro e a' w' ⟨x, env', h', ds', L', rfl, k1, k2, k3, k4, k5, k6⟩
        cases x with
        | nrm => exact (ihl _ _ _ _ _ _ _ _ _ sb k1 L' a' w' U hU (rg.mono k6.ext) k2 k3 k5).mono fun _ _ _ c => c.lift k6 k4 fun _ _ _ _ h => h
        | ext i => exact ⟨_, env', h', ds', L', rfl, k1, k2, k3, k4, k5, k6⟩
        | gto i => exact ⟨_, env', h', ds', L', rfl, k1, k2, k3, k4, k5, k6⟩
        | ret => exact ⟨_, env', h', ds', L', rfl, k1, k2, k3, k4, k5, k6⟩
    refine ⟨?_, loop⟩
    intro ro f code mask n env h ds K sb hk L a w U hU rg re hn rh
    have reg : ∀ {loc : Lo} {h' : H} {ds' : List Bool} {L' : LM} {a' : Act} {w' : World}, K .nrm (flush mask loc env) h' ds' → RL L' loc env a' → a'.tmps.size = n → a'.defers = a.defers → RH L' h' w' U → Step L L' h h' w w' →
        CPost K U L h w a.defers mask n .normal a' w' := fun {loc h' ds' L' a' w'} k1 k2 k3 k4 k5 k6 =>
      ⟨.nrm, flush mask loc env, h', ds', L', rfl, k1, ⟨fun t v ht => by
        obtain ⟨rfl, _⟩ := flush_rel re.bits t v ht
        exact k2 t, fun t v ht => (flush_rel re.bits t v ht).2⟩, k3, .eq k4, k5, k6⟩
    cases code with
    | skip => exact wpIn_skip (.here (x := .nrm) hk re hn rh)
    | label l => exact wpIn_label (.here (x := .nrm) hk re hn rh)
    | exit id => exact wpIn_exit (.here (x := .ext id) hk re hn rh)
    | goto l => exact wpIn_goto (.here (x := .gto l) hk re hn rh)
    | ret => exact wpIn_ret (.here (x := .ret) hk re hn rh)
    | rangeFunc g ps asg body =>
      have hk : (match opd C.gl [] env g with
        | .fn (.func q) first cap => (Bool.rec False (xfun C P (xcode C P fuel) q (lapp first (lapp [.yld h.next] cap)) (hnew h (.loop .ready none mask n env ps.toList asg body)) ds fun _ h2 ds => xdone h.next env h2 ds K) (Bool.and (Nat.ble (Nat.succ f) YK) (Nat.ble (Nat.succ q) YK)) : Prop)
        | _ => False) := hk
      split at hk <;> try exact hk.elim
      rename_i q first cap hv
      cases hb : Bool.and (Nat.ble (Nat.succ f) YK) (Nat.ble (Nat.succ q) YK) with
      | false => rw [hb] at hk; exact hk.elim
      | true =>
        rw [hb] at hk
        obtain ⟨hb1, hb2⟩ := band' hb
        obtain ⟨rfl, _⟩ := sb hb1
        obtain ⟨hen, hcl⟩ := hcall.fn _ _ _ _ _ hb2 hk
        have hgr := opd_rel rg re.loc g
        rw [hv] at hgr
        generalize hge : a.eval g = gv at hgr
        cases hgr with
        | fn _ _ _ xs ys g1 g2 =>
        refine wpIn_rangeFunc fun fn _ => ?_
        let rec0 : Loop := { state := .ready, pending := none, fn, tmps := a.tmps, params := ps, assign := asg, body, defers := w.heap.size }
        let w1 := w.alloc (.deferred (some []))
        let w2 := w1.alloc (.loop rec0)
        have hs1 : w1.heap.size = w.heap.size + 1 := by simp [w1]
        have hUn : h.next + 1 ≤ U := by
          obtain ⟨v, h2, ds2, q1, q2, _⟩ := hcs _ _ _ _ _ hk
          obtain ⟨x, q3, _⟩ := xdone_split q1
          have := hU _ _ _ _ q3
          have q2 : h.next + 1 ≤ h2.next := q2
          have : h2.next ≤ U := this
          omega
        -- the block for deferred calls
        have hold1 : ∀ B, B < w.heap.size → w1.heap[B]? = w.heap[B]? := fun B hB => alloc_heap _ _ _ hB
        have rh1 : RH L h w1 U := ⟨fun i k p hi hp => (rh.mem i k p hi hp).keep (hold1 _ (rh.below i p hp)), rh.sep, rh.fresh, fun i p hp => by have := rh.below i p hp; omega, rh.live⟩
        have fro1 : ∀ x, x.block < w.heap.size → w1.frozen? x = w.frozen? x := fun x hx => World.frozen?_of_block (hold1 _ hx)
        have st1 : Step L L h h w w1 := ⟨Ext.refl L, by omega, fun B hB _ => hold1 B hB, fun _ h _ => h, fun _ _ h => .inl h, Nat.le_refl _, rfl, rfl, rfl, fro1⟩
        have fro2 : ∀ x, x.block < w1.heap.size → w2.frozen? x = w1.frozen? x := fun x hx => World.frozen?_of_block (alloc_heap _ _ _ hx)
        obtain ⟨L2, e1, rh2, st2⟩ := rh_new rh1 hUn (.loop .ready none mask n env ps.toList asg body) (.loop rec0) fro2 0 (fun L' hx => ⟨rec0, alloc_new _ _, ⟨rfl, rfl, rfl, rfl, rfl, hn⟩, fun t v ht => ⟨(re.get t v ht).mono hx, re.bits t v ht⟩⟩)
        have hargs : RVs L2 (lapp first (lapp [.yld h.next] cap)) ((xs ++ #[Value.func (.yield w1.heap.size) #[] #[]]) ++ ys).toList := by
          rw [lapp_eq, lapp_eq]
          have h1 : RVs L2 [.yld h.next] [Value.func (.yield w1.heap.size) #[] #[]] := .cons _ _ _ _ (.yld h.next _ e1) .nil
          have := (g1.mono st2.ext).append (h1.append (g2.mono st2.ext))
          simpa using this
        have hres : (resolve a.eval (rangeCall g w1.heap.size) 0).run P w2 = .ok { target := .fn (.func q) ys, args := xs ++ #[Value.func (.yield w1.heap.size) #[] #[]] } w2 := by
          have hc : ∀ v, a.eval (.const v) = v := fun _ => rfl
          simp [resolve, hge, hc, Deferred.ofValue]
        refine ⟨w1.heap.size, [mark w.heap.size], w2, _, w2, q, (xs ++ #[Value.func (.yield w1.heap.size) #[] #[]]) ++ ys, w2, ?_, hres, fun _ _ => trivial, ?_, (fun h => by simp [WF] at h), callsWF ((hcl L2 w2 _ U (rg.mono st2.ext) hargs rh2 fun v h' ds' hx => ?_).mono ?_)⟩
        · rw [hs1]; exact run_enterLoop_outer _ _ _ _ _
        · simp [invoke, run_enter hen]
        · obtain ⟨x, q1, _⟩ := xdone_split hx
          have := hU _ _ _ _ q1
          exact this
        · rintro e w3 ⟨v, h3, ds3, L3, v', rfl, k1, k2, k3, k4⟩
          have hp3 := k4.ext _ _ e1
          have hD2 : w2.heap[w.heap.size]? = some (.deferred (some [])) := by
            have h1 : w1.heap[w.heap.size]? = some (.deferred (some [])) := alloc_new _ _
            exact (alloc_heap _ _ _ (by omega)).trans h1
          have hL2 : ∀ i p, L2 i = some p → p.B ≠ w.heap.size := by
            intro i p hp
            rcases st2.new i p hp with h1 | ⟨_, _, h1 | ⟨i', k, q, _, _, hq, e⟩⟩
            · have := rh.below i p h1; omega
            · omega
            · have := rh.below i' q hq; omega
          obtain ⟨hD3, hL3⟩ := off_step k4 hD2 hL2
          have fin : ∀ {st : LoopState} {j : Option Code} {mask2 n2 : Nat} {env2 : Env} {ps2 : List Nat} {asg2 body2 : Code}, h3.b.get h.next = some (.loop st j mask2 n2 env2 ps2 asg2 body2) → st ≠ .busy →
              ∃ w4, (Instr.endLoop w1.heap.size).run P w3 = .ok j w4 ∧ ∀ x, K x env ⟨h3.b.del h.next, h3.next⟩ ds3 → CPost K U L h w a.defers mask n (XE.exit x) { a with defers := [mark w.heap.size] ++ a.defers } w4 := by
            intro st j mask2 n2 env2 ps2 asg2 body2 hg hst
            obtain ⟨r3, d1, ⟨d2, d3, _⟩, _⟩ := k3.mem _ _ _ hg hp3
            refine ⟨_, by rw [← d3]; exact run_endLoop d1 (by rw [d2]; exact hst), fun x hx => ?_⟩
            obtain ⟨rh4, st4⟩ := rh_drop k3 hg rfl rfl hp3 (.loop { r3 with state := .exhausted }) (frozen_put d1 (fun _ _ _ h => by cases h) (fun _ _ _ h => by cases h))
            have sall := (st1.trans st2).trans (k4.trans st4)
            refine ⟨x, env, _, ds3, L3, rfl, hx, ⟨fun t v ht => (re.get t v ht).mono (st2.ext.trans k4.ext), re.bits⟩, hn, ⟨[w.heap.size], rfl, by simp, fun D hD => ?_⟩, rh4, sall⟩
            have hD : D = w.heap.size := by simpa using hD
            subst hD
            exact ⟨Nat.le_refl _, (World.putObj_heap_other (by show w.heap.size ≠ w1.heap.size; omega)).trans hD3, hL3⟩
          unfold xdone at k1
          show ∃ jump w₄, (Instr.endLoop w1.heap.size).run P w3 = .ok jump w₄ ∧ _
          split at k1 <;> try exact k1.elim
          · rename_i hg
            split at k1 <;> try exact k1.elim
            obtain ⟨w4, f1, f2⟩ := fin hg (by simp)
            exact ⟨_, w4, f1, f2 .nrm k1⟩
          · rename_i hg
            split at k1 <;> try exact k1.elim
            · obtain ⟨w4, f1, f2⟩ := fin hg (by simp)
              exact ⟨_, w4, f1, wpIn_ret (f2 .ret k1)⟩
            · obtain ⟨w4, f1, f2⟩ := fin hg (by simp)
              exact ⟨_, w4, f1, wpIn_exit (f2 (.ext _) k1)⟩
            · obtain ⟨w4, f1, f2⟩ := fin hg (by simp)
              exact ⟨_, w4, f1, wpIn_goto (f2 (.gto _) k1)⟩
    | scope c =>
      have hk : xcode C P fuel f c mask n env h ds (fun x env h ds => match x with
        | .gto _ => False
        | x => K x env h ds) := hk
      refine wpIn_scope (wpIn_mono (ih _ _ _ _ _ _ _ _ _ (fun hf => (sb hf).imp (fun x => x) fun s => s.map fun _ => .scope) hk L a w U ?_ rg re hn rh) ?_)
      · intro x e h' ds' hx
        cases x with
        | gto l => exact hx.elim
        | _ => exact hU _ _ _ _ hx
      · rintro e a' w' ⟨x, env', h', ds', L', rfl, k1, k2, k3, k4, k5, k6⟩
        cases x with
        | gto i => exact k1.elim
        | nrm => exact ⟨.nrm, env', h', ds', L', rfl, k1, k2, k3, k4, k5, k6⟩
        | ext i => exact ⟨.ext i, env', h', ds', L', rfl, k1, k2, k3, k4, k5, k6⟩
        | ret => exact ⟨.ret, env', h', ds', L', rfl, k1, k2, k3, k4, k5, k6⟩
    | refuse => exact hk.elim
    | region id ops draw =>
      cases draw with
      | false =>
        have hk : xops C.mode P C.gl (xfun C P (xcode C P fuel)) n env ops.toList ops.toList [] h ds (fun loc h ds => K .nrm (flush mask loc env) h ds) := hk
        refine wpIn_region ?_
        have := xops_sound (ro := ro) (Q := CPost K U L h w a.defers mask n) (L0 := L) (h0 := h) (w0 := w) (D := a.defers) (U := U) hcall hcs (fun loc h ds hk => hU _ _ _ _ hk)
          (fun loc h' ds' L' a' w' k1 k2 k3 k4 k5 k6 => reg k1 k2 k3 k4 k5 k6) ops.toList [] [] h ds rfl hk L a w rg re.loc hn rfl rh (Step.refl _ _ _)
        simpa [List.range_eq_range'] using this
      | true =>
        have hk : xdraw C.mode P C.gl (xfun C P (xcode C P fuel)) n env ops.toList h ds (fun loc h ds => K .nrm (flush mask loc env) h ds) := hk
        exact hD hcall hcs hk (fun loc h ds hk => hU _ _ _ _ hk) rg re.loc hn rfl rh fun loc h' ds' L' a' w' k1 k2 k3 k4 k5 k6 => reg k1 k2 k3 k4 k5 k6
    | seq x y =>
      have hk : xcode C P fuel f x mask n env h ds (fun x env h ds => match x with
        | .nrm => xcode C P fuel f y mask n env h ds K
        | x => K x env h ds) := hk
      refine wpIn_seq (wpIn_mono (ih _ _ _ _ _ _ _ _ _ (fun hf => (sb hf).imp (fun x => x) fun s => s.map fun _ => .seql) hk L a w U ?_ rg re hn rh) ?_)
      · intro x e h' ds' hx
        cases x with
        | nrm =>
          obtain ⟨x2, e2, h2, ds2, q1, q2, _⟩ := isp _ _ _ _ _ _ _ _ hx
          exact Nat.le_trans q2 (hU _ _ _ _ q1)
        | _ => exact hU _ _ _ _ hx
      · rintro e a' w' ⟨x, env', h', ds', L', rfl, k1, k2, k3, k4, k5, k6⟩
        cases x with
        | nrm => exact wpIn_mono (ih _ _ _ _ _ _ _ _ _ (fun hf => (sb hf).imp (fun x => x) fun s => s.map fun _ => .seqr) k1 L' a' w' U hU (rg.mono k6.ext) k2 k3 k5) fun _ _ _ c => c.lift k6 k4 fun _ _ _ _ h => h
        | ext i => exact ⟨_, env', h', ds', L', rfl, k1, k2, k3, k4, k5, k6⟩
        | gto i => exact ⟨_, env', h', ds', L', rfl, k1, k2, k3, k4, k5, k6⟩
        | ret => exact ⟨_, env', h', ds', L', rfl, k1, k2, k3, k4, k5, k6⟩
    | cond c x y =>
      have hk : (match opd C.gl [] env c with
        | .bool t => (Bool.rec (xcode C P fuel f y mask n env h ds K) (xcode C P fuel f x mask n env h ds K) t : Prop)
        | _ => False) := hk
      have hr := opd_rel rg re.loc c
      cases hv : opd C.gl [] env c <;> rw [hv] at hk <;> try exact hk.elim
      rename_i t
      rw [hv] at hr
      generalize hc : a.eval c = v at hr
      cases hr
      cases t with
      | false => exact wpIn_cond_false hc (ih _ _ _ _ _ _ _ _ _ (fun hf => (sb hf).imp (fun x => x) fun s => s.map fun _ => .condr) hk L a w U hU rg re hn rh)
      | true => exact wpIn_cond_true hc (ih _ _ _ _ _ _ _ _ _ (fun hf => (sb hf).imp (fun x => x) fun s => s.map fun _ => .condl) hk L a w U hU rg re hn rh)
    | block id c =>
      have hk : xcode C P fuel f c mask n env h ds (fun x env h ds => Bool.rec (K x env h ds) (K .nrm env h ds) (isExt x id)) := hk
      refine wpIn_block (wpIn_mono (ih _ _ _ _ _ _ _ _ _ (fun hf => (sb hf).imp (fun x => x) fun s => s.map fun _ => .block) hk L a w U ?_ rg re hn rh) ?_)
      · intro x e h' ds' hx
        cases hb : isExt x id with
        | true => rw [hb] at hx; exact hU _ _ _ _ hx
        | false => rw [hb] at hx; exact hU _ _ _ _ hx
      · rintro e a' w' ⟨x, env', h', ds', L', rfl, k1, k2, k3, k4, k5, k6⟩
        cases x with
        | ext i =>
          show (if i = id then CPost K U L h w a.defers mask n .normal a' w' else CPost K U L h w a.defers mask n (.exit i) a' w')
          by_cases e : i = id
          · rw [if_pos e]
            have : isExt (.ext i) id = true := natBeq_iff.2 e
            rw [this] at k1
            exact ⟨.nrm, env', h', ds', L', rfl, k1, k2, k3, k4, k5, k6⟩
          · rw [if_neg e]
            have : isExt (.ext i) id = false := by
              cases hb : isExt (.ext i) id with
              | false => rfl
              | true => exact absurd (natBeq_iff.1 hb) e
            rw [this] at k1
            exact ⟨.ext i, env', h', ds', L', rfl, k1, k2, k3, k4, k5, k6⟩
        | nrm => exact ⟨.nrm, env', h', ds', L', rfl, k1, k2, k3, k4, k5, k6⟩
        | gto i => exact ⟨.gto i, env', h', ds', L', rfl, k1, k2, k3, k4, k5, k6⟩
        | ret => exact ⟨.ret, env', h', ds', L', rfl, k1, k2, k3, k4, k5, k6⟩
    | loop c => exact (loop ro f c mask n env h ds K sb hk L a w U hU rg re hn rh).wp
end
end
end Go.X

/- One operation of the abstract machine, whichever; what it is that a frame stands for. -/
import Derived.Test.YtjhbegfkeppcbaaXK
set_option autoImplicit false
namespace Go.X
noncomputable section

def xnil (x : AV) (h : H) (ds : List Bool) (K : KV) : Prop := match x with
  | .ptr i o => K (.ptr i o) h ds
  | .map i => K (.map i) h ds
  | .fn (.func f) a b => K (.fn (.func f) a b) h ds
  | .ifc t v => K (.ifc t v) h ds
  | _ => False
def xext (t : AV) (i : Nat) (h : H) (ds : List Bool) (K : KV) : Prop := match t with
  | .tup vs => match lget vs i with
    | some v => K v h ds
    | none => False
  | _ => False
def xpick (c a b : AV) (h : H) (ds : List Bool) (K : KV) : Prop := match c with
  | .bool t => K (Bool.rec b a t) h ds
  | _ => False
def xblt (m : Bool) (P : Program) (ρ : Operand → AV) (b : Builtin) (ts : List TypeId) (args : List Operand) (h : H) (ds : List Bool) (K : KV) : Prop :=
  match b with
  | .len => match ts with
    | [t] => match args with
      | [x] => xlen P t (ρ x) h ds K
      | _ => False
    | _ => False
  | .append => match ts with
    | [t, tx] => match args with
      | [s, x] => xapp m P t tx (ρ s) (ρ x) h ds K
      | _ => False
    | _ => False
  | _ => False
def omap (ρ : Operand → AV) (x : Option Operand) : Option AV := match x with
  | some y => some (ρ y)
  | none => none
def xop (m : Bool) (P : Program) (ρ : Operand → AV) (op : Op) (h : H) (ds : List Bool) (K : KV) : Prop :=
  match op with
  | .move x => K (ρ x) h ds
  | .assign x => K (ρ x) h ds
  | .pick c a b => xpick (ρ c) (ρ a) (ρ b) h ds K
  | .alloc e => xalloc P e h ds K
  | .box e x => xbox e (ρ x) h ds K
  | .build t ps => xbuild P t (lmap (fun p => (p.1, ρ p.2)) ps.toList) h ds K
  | .buildSlice t n ps => xbslice m P t n (lmap (fun p => (p.1, ρ p.2)) ps.toList) h ds K
  | .load t a => xload m P t (ρ a) h ds K
  | .store t a x => xstore m P t (ρ a) (ρ x) h ds K
  | .nilCheck x => xnil (ρ x) h ds K
  | .binOp op t x y _ => xbin m P op t (ρ x) (ρ y) h ds K
  | .unOp op _ x => xun m op (ρ x) h ds K
  | .convert s t x => xconv m P s t (ρ x) h ds K
  | .makeInterface t x => Bool.rec False (K (.ifc t (ρ x)) h ds) (P.concrete t)
  | .makeFunc fn f c => K (.fn fn (lmap ρ f.toList) (lmap ρ c.toList)) h ds
  | .makeSlice t l c => xmake m P t (ρ l) (ρ c) h ds K
  | .slice t x lo hi mx => xslice m P t (ρ x) (omap ρ lo) (omap ρ hi) (omap ρ mx) h ds K
  | .fieldAddr t x f => xfaddr P t (ρ x) f h ds K
  | .field t x f => xfield m P t (ρ x) f h ds K
  | .indexAddr t x i => xiaddr m P t (ρ x) (ρ i) h ds K
  | .index t x i => xindex m P t (ρ x) (ρ i) h ds K
  | .extract t i => xext (ρ t) i h ds K
  | .call c => match c.callee with
    | .builtin b => xblt m P ρ b c.argTypes.toList c.args.toList h ds K
    | _ => False
  | _ => False

def Outs (r : Result Next) (v : Value) (w : World) : Prop := r = .ok (.value v) w ∨ (r = .ok .skip w ∧ v = undef)
def OpOK (P : Program) (s : Sem Next) (L : LM) (h : H) (w : World) (U : Nat) (K : KV) : Prop :=
  ∃ v h' ds' L' v' w', K v h' ds' ∧ Outs (s.run P w) v' w' ∧ RV L' v v' ∧ RH L' h' w' U ∧ Step L L' h h' w w'
section
variable {P : Program} {L : LM} {h : H} {w : World} {U : Nat} {m : Bool} {ds : List Bool} {K : KV}
theorem OpOK.val {s : Sem Value} (hs : SemOK P s L h w U K) : OpOK P (do pure (.value (← s))) L h w U K := by
  obtain ⟨v, h', ds', L', v', w', a, b, c⟩ := hs
  exact ⟨v, h', ds', L', v', w', a, .inl (by simp [b]), c⟩
theorem OpOK.here (r : RH L h w U) {v : AV} {v' : Value} {ds' : List Bool} (hk : K v h ds') (hv : RV L v v') : OpOK P (pure (.value v')) L h w U K :=
  ⟨v, h, ds', L, v', w, hk, .inl rfl, hv, r, Step.refl L h w⟩
theorem rps_map {ρ : Operand → AV} {ρ' : Operand → Value} (hρ : ∀ x, RV L (ρ x) (ρ' x)) : ∀ (ps : List (Nat × Operand)), RPs L (ps.map fun p => (p.1, ρ p.2)) (ps.map fun p => (p.1, ρ' p.2))
  | [] => ⟨rfl, .nil⟩
  | p :: ps => by
    obtain ⟨a, b⟩ := rps_map hρ ps
    exact ⟨by simp, .cons _ _ _ _ (hρ _) b⟩
theorem rvs_map {ρ : Operand → AV} {ρ' : Operand → Value} (hρ : ∀ x, RV L (ρ x) (ρ' x)) : ∀ (xs : List Operand), RVs L (xs.map ρ) (xs.map ρ')
  | [] => .nil
  | x :: xs => .cons _ _ _ _ (hρ x) (rvs_map hρ xs)
theorem ro_map {ρ : Operand → AV} {ρ' : Operand → Value} (hρ : ∀ x, RV L (ρ x) (ρ' x)) (x : Option Operand) : RO L (omap ρ x) (x.map ρ') := by
  cases x with
  | none => exact .none
  | some x => exact .some _ _ (hρ x)
theorem sliceAt_eq {t : TypeId} {x : AV} {x' : Value} {lo hi mx : Option AV} {lo' hi' mx' : Option Value} (hk : xslice m P t x lo hi mx h ds K) :
    (Instr.sliceAt t x' lo' hi' mx').run P w = (Instr.slice t x' lo' hi' mx').run P w := by
  unfold xslice at hk
  split at hk <;> try exact hk.elim
  · rename_i hu; simp [Instr.sliceAt, run_underlying hu]
  · rename_i e hu; simp [Instr.sliceAt, run_underlying hu]
theorem SemOK.of_eq {s s' : Sem Value} (e : s'.run P w = s.run P w) (hs : SemOK P s L h w U K) : SemOK P s' L h w U K := by
  obtain ⟨v, h', ds', L', v', w', a, b, c⟩ := hs
  exact ⟨v, h', ds', L', v', w', a, e.trans b, c⟩
set_option maxHeartbeats 4000000 in
theorem xop_sound (r : RH L h w U) (hU : ∀ v h' ds', K v h' ds' → h'.next ≤ U) {ρ : Operand → AV} {ρ' : Operand → Value} (hρ : ∀ x, RV L (ρ x) (ρ' x)) (o : Oper) (hk : xop m P ρ o.op h ds K) :
    OpOK P (execOp ρ' o) L h w U K := by
  obtain ⟨dst, op, type, pos, after, guard⟩ := o
  cases op <;> simp only [xop] at hk <;> try exact hk.elim
  case move x => exact .here r hk (hρ x)
  case assign x => exact .here r hk (hρ x)
  case pick c a b =>
    unfold xpick at hk
    split at hk <;> try exact hk.elim
    rename_i t hc
    have hcv := hρ c
    rw [hc] at hcv
    generalize hcc : ρ' c = c' at hcv
    cases hcv
    refine ⟨_, h, ds, L, if t then ρ' a else ρ' b, w, hk, .inl ?_, ?_, r, Step.refl L h w⟩
    · simp only [execOp, hcc, asBool]; cases t <;> rfl
    · cases t <;> exact hρ _
  case alloc e => exact .val (s := Instr.alloc e true (.tuple #[])) (xalloc_sound r hU hk)
  case box e x => exact .val (s := Instr.box e (ρ' x)) (xbox_sound r hU (hρ x) hk)
  case build t ps =>
    rw [lmap_eq] at hk
    simp only [execOp]
    refine .val (xbuild_sound r ?_ hk)
    simpa using rps_map hρ ps.toList
  case buildSlice t n ps =>
    rw [lmap_eq] at hk
    simp only [execOp]
    refine .val (xbslice_sound r hU ?_ hk)
    simpa using rps_map hρ ps.toList
  case load t a => exact .val (s := Instr.loadAt t (ρ' a)) (xload_sound r (hρ a) hk)
  case store t a x =>
    obtain ⟨h', w', a1, a2, a3, a4⟩ := xstore_sound r (hρ a) (hρ x) hk
    exact ⟨_, h', ds, L, undef, w', a1, .inr ⟨by simp [execOp, a2], rfl⟩, .tup [] #[] .nil, a3, a4⟩
  case nilCheck x =>
    unfold xnil at hk
    have hx := hρ x
    split at hk <;> try exact hk.elim
    all_goals
      rename_i heq
      rw [heq] at hx
      generalize hcc : ρ' x = c' at hx
      cases hx
      refine ⟨_, h, ds, L, ρ' x, w, hk, .inl (by simp only [execOp, hcc]; rfl), ?_, r, Step.refl L h w⟩
      rw [hcc]; constructor <;> assumption
  case binOp op t x y yt => exact .val (s := do eqGuard op t x y (ρ' x) (ρ' y); binOp op t (ρ' x) (ρ' y)) (xbin_sound r (hρ x) (hρ y) x y hk)
  case unOp op t x => exact .val (s := Op.unary op (ρ' x)) (xun_sound r (hρ x) hk)
  case convert s t x => exact .val (s := convert s t (ρ' x)) (xconv_sound r (hρ x) hk)
  case makeInterface t x =>
    cases hc : P.concrete t with
    | false => rw [hc] at hk; exact hk.elim
    | true =>
      rw [hc] at hk
      exact .val (s := Instr.makeInterface t (ρ' x)) (.same r hk (run_makeInterface w t _ hc) (.ifc _ _ _ (hρ x)))
  case makeFunc fn f c =>
    rw [lmap_eq, lmap_eq] at hk
    exact .val (s := Instr.makeFunc fn (f.map ρ') (c.map ρ')) (.same r hk (v' := .func fn (f.map ρ') (c.map ρ')) rfl (.fn _ _ _ _ _ (by simpa using rvs_map hρ f.toList) (by simpa using rvs_map hρ c.toList)))
  case makeSlice t l c => exact .val (s := Instr.makeSlice t (ρ' l) (ρ' c)) (xmake_sound r hU (hρ l) (hρ c) hk)
  case slice t x lo hi mx => exact .val (s := Instr.sliceAt t (ρ' x) (lo.map ρ') (hi.map ρ') (mx.map ρ')) (.of_eq (sliceAt_eq hk) (xslice_sound r (hρ x) (ro_map hρ lo) (ro_map hρ hi) (ro_map hρ mx) hk))
  case fieldAddr t x f => exact .val (s := Instr.fieldAt t (ρ' x) f) (xfaddr_sound r (hρ x) hk)
  case field t x f => exact .val (s := Instr.field t (ρ' x) f) (xfield_sound r (hρ x) hk)
  case indexAddr t x i => exact .val (s := Instr.indexAt t (ρ' x) (ρ' i)) (xiaddr_sound r (hρ x) (hρ i) hk)
  case index t x i => exact .val (s := Instr.index t (ρ' x) (ρ' i)) (xindex_sound r (hρ x) (hρ i) hk)
  case extract t i =>
    unfold xext at hk
    have hx := hρ t
    split at hk <;> try exact hk.elim
    rename_i vs heq
    rw [heq] at hx
    generalize hcc : ρ' t = c' at hx
    cases hx with
    | tup _ xs hxs =>
      split at hk <;> try exact hk.elim
      rename_i v hv
      rw [lget_eq] at hv
      obtain ⟨v', e1, e2⟩ := hxs.get hv
      refine .val (s := Instr.extract (ρ' t) i) (.same r hk (v' := v') ?_ e2)
      rw [hcc]; simp at e1; simp [Instr.extract, e1]
  case call c =>
    split at hk <;> try exact hk.elim
    rename_i b hb
    unfold xblt at hk
    split at hk <;> try exact hk.elim
    · split at hk <;> try exact hk.elim
      rename_i t ht
      split at hk <;> try exact hk.elim
      rename_i x hx
      have ht' : c.argTypes = #[t] := by apply Array.ext'; simpa using ht
      have hx' : c.args = #[x] := by apply Array.ext'; simpa using hx
      have h1 := OpOK.val (xlen_sound (ty := type) r (hρ x) hk)
      obtain ⟨v, h', ds', L', v', w', a, b', c'⟩ := h1
      refine ⟨v, h', ds', L', v', w', a, ?_, c'⟩
      simpa [execOp, resolve, hb, hx', ht', invoke, builtin] using b'
    · split at hk <;> try exact hk.elim
      rename_i t tx ht
      split at hk <;> try exact hk.elim
      rename_i s x hx
      have ht' : c.argTypes = #[t, tx] := by apply Array.ext'; simpa using ht
      have hx' : c.args = #[s, x] := by apply Array.ext'; simpa using hx
      have h1 := OpOK.val (xapp_sound (ty := type) r hU (hρ s) (hρ x) hk)
      obtain ⟨v, h', ds', L', v', w', a, b', c'⟩ := h1
      refine ⟨v, h', ds', L', v', w', a, ?_, c'⟩
      simpa [execOp, resolve, hb, hx', ht', invoke, builtin] using b'
end
end
end Go.X

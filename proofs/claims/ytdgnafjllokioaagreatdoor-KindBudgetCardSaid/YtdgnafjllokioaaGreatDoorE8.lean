/- Functions that defer one call: it is made on the way out. -/
import Derived.Test.YtdgnafjllokioaaGreatDoorE7
set_option linter.unusedVariables false
set_option linter.unusedSimpArgs false
set_option autoImplicit false
set_option linter.unusedVariables false
namespace Go.X
noncomputable section
section
variable {P : Program}
/-- the operations ahead of a defer, at which a list ends -/
def dfr : List Oper → Option (List Oper × Oper × Nat × List Operand)
  | [] => none
  | o :: rest => match rest with
    | [] => match o.guard with
      | none => match o.dst with
        | none => match o.op with
          | .defer c => match c.callee with
            | .value (.func q) => some ([], o, q, c.args.toList)
            | _ => none
          | _ => none
        | some _ => none
      | some _ => none
    | _ :: _ => match dfr rest with
      | some (pre, x) => some (o :: pre, x)
      | none => none
structure IsDfr (o : Oper) (q : Nat) (as : List Operand) : Prop where
  gd : o.guard = none
  dst : o.dst = none
  op : ∃ c, o.op = .defer c ∧ c.callee = .value (.func q) ∧ c.args.toList = as
theorem dfr_spec : ∀ {ops pre : List Oper} {o : Oper} {q : Nat} {as : List Operand}, dfr ops = some (pre, o, q, as) → ops = pre ++ [o] ∧ IsDfr o q as
  | [], pre, o, q, as, h => by cases h
  | [o1], pre, o, q, as, h => by
    unfold dfr at h
    dsimp only at h
    split at h <;> try (cases h; done)
    rename_i hg
    split at h <;> try (cases h; done)
    rename_i hd
    split at h <;> try (cases h; done)
    rename_i c hop
    split at h <;> try (cases h; done)
    rename_i q1 hc
    cases h
    exact ⟨rfl, hg, hd, c, hop, hc, rfl⟩
  | o1 :: o2 :: rest, pre, o, q, as, h => by
    unfold dfr at h
    dsimp only at h
    split at h
    · rename_i pre1 x hx
      cases h
      obtain ⟨e, i⟩ := dfr_spec hx
      exact ⟨by rw [e]; rfl, i⟩
    · cases h
def dfrC (c : Code) : Option (Array Oper × List Oper × Oper × Nat × List Operand) := match c with
  | .region _ ops draw => match draw with
    | false => match dfr ops.toList with
      | some x => some (ops, x)
      | none => none
    | true => none
  | _ => none
theorem dfrC_spec {c : Code} {ops : Array Oper} {pre : List Oper} {o : Oper} {q : Nat} {as : List Operand} (h : dfrC c = some (ops, pre, o, q, as)) : ∃ id, c = .region id ops false ∧ ops.toList = pre ++ [o] ∧ IsDfr o q as := by
  unfold dfrC at h
  split at h <;> try (cases h; done)
  rename_i id ops1 draw
  split at h <;> try (cases h; done)
  split at h <;> try (cases h; done)
  rename_i x hx
  cases h
  obtain ⟨a, b⟩ := dfr_spec hx
  exact ⟨id, rfl, a, b⟩
def E0 (C : Cfg) (P : Program) (rs : List ResultVar) (K : KV) : KE := fun x env h ds => match x with
  | .nrm => xres C.mode P env h ds rs fun vs => K (one1 vs) h ds
  | .ret => xres C.mode P env h ds rs fun vs => K (one1 vs) h ds
  | _ => False
def callD (C : Cfg) (P : Program) (fuel : Nat) (rs : List ResultVar) (K : KV) (q : Nat) (vs : List AV) (env : Env) (h : H) (ds : List Bool) : Prop := match C.con q with
  | none => Bool.rec False (xfun C P (xcode C P fuel) q vs h ds fun _ h ds => xres C.mode P env h ds rs fun vs => K (one1 vs) h ds) (Nat.ble (Nat.succ q) YK)
  | some _ => False
def E1 (C : Cfg) (P : Program) (fuel : Nat) (rs : List ResultVar) (K : KV) (q : Nat) (vs : List AV) : KE := fun x env h ds => match x with
  | .nrm => callD C P fuel rs K q vs env h ds
  | .ret => callD C P fuel rs K q vs env h ds
  | _ => False
def xdef (C : Cfg) (P : Program) (fuel f mask n : Nat) (rs : List ResultVar) : Code → Env → H → List Bool → KV → Prop
  | .seq a b, env, h, ds, K => match dfrC a with
    | some (ops, pre, _, q, as) => xops C.mode P C.gl (xfun C P (xcode C P fuel)) n env ops.toList pre [] h ds fun loc h ds => xcode C P fuel f b mask n (flush mask loc env) h ds (E1 C P fuel rs K q (lmap (opd C.gl loc env) as))
    | none => xcode C P fuel f a mask n env h ds fun x env h ds => match x with
      | .nrm => xdef C P fuel f mask n rs b env h ds K
      | x => E0 C P rs K x env h ds
  | _, _, _, _, _ => False
/-- a function that defers one call, as a contract -/
def xD (C : Cfg) (P : Program) (fuel f : Nat) : List AV → H → List Bool → KV → Prop := fun args h ds K => match P.funcs[f]? with
  | some fn => match fn.body with
    | some b => Bool.rec False (xdef C P fuel f (C.mask f) fn.ntmps fn.results.toList b (argEnv (C.mask f) args) h ds K) (Nat.ble (llen args) fn.ntmps)
    | none => False
  | none => False
theorem E0_spl {C : Cfg} {rs : List ResultVar} {x : XE} {env : Env} {h : H} {ds : List Bool} : Spl h (fun K => E0 C P rs K x env h ds) := by
  intro K hk
  have go : (xres C.mode P env h ds rs fun vs => K (one1 vs) h ds) → ∃ v h' ds', K v h' ds' ∧ h.next ≤ h'.next ∧ ∀ K' : KV, K' v h' ds' → xres C.mode P env h ds rs fun vs => K' (one1 vs) h ds := fun hk => by
    obtain ⟨vs, a, b⟩ := xres_split hk
    exact ⟨_, _, _, a, Nat.le_refl _, fun K' hk' => b (fun vs => K' (one1 vs) h ds) hk'⟩
  cases x with
  | nrm => exact go hk
  | ret => exact go hk
  | _ => exact hk.elim
theorem callD_spl {C : Cfg} (hS : SplCon C) {fuel : Nat} {rs : List ResultVar} {q : Nat} {vs : List AV} {env : Env} {h : H} {ds : List Bool} : Spl h (fun K => callD C P fuel rs K q vs env h ds) := by
  intro K hk
  unfold callD at hk
  cases hc : C.con q with
  | some c => simp only [hc] at hk
  | none =>
    simp only [hc] at hk
    cases hb : Nat.ble (Nat.succ q) YK with
    | false => rw [hb] at hk; exact hk.elim
    | true =>
      rw [hb] at hk
      obtain ⟨v, h', ds', a, b, c⟩ := xfun_spl hS (xcode_spl hS fuel) q vs h ds _ hk
      obtain ⟨us, d, e⟩ := xres_split a
      refine ⟨_, _, _, d, b, fun K' hk' => ?_⟩
      show callD C P fuel rs K' q vs env h ds
      unfold callD
      simp only [hc, hb]
      exact c _ (e (fun vs => K' (one1 vs) h' ds') hk')
theorem E1_spl {C : Cfg} (hS : SplCon C) {fuel : Nat} {rs : List ResultVar} {q : Nat} {vs : List AV} {x : XE} {env : Env} {h : H} {ds : List Bool} : Spl h (fun K => E1 C P fuel rs K q vs x env h ds) := by
  intro K hk
  cases x with
  | nrm => exact callD_spl hS K hk
  | ret => exact callD_spl hS K hk
  | _ => exact hk.elim
theorem xdef_spl {C : Cfg} (hS : SplCon C) {fuel f mask n : Nat} {rs : List ResultVar} : ∀ (code : Code) (env : Env) (h : H) (ds : List Bool), Spl h (fun K => xdef C P fuel f mask n rs code env h ds K) := by
  intro code
  induction code with
  | seq a b iha ihb =>
    intro env h ds K hk
    show ∃ v h' ds', K v h' ds' ∧ h.next ≤ h'.next ∧ ∀ K' : KV, K' v h' ds' → xdef C P fuel f mask n rs (.seq a b) env h ds K'
    unfold xdef at hk ⊢
    cases hd : dfrC a with
    | some x =>
      obtain ⟨ops, pre, o, q, as⟩ := x
      simp only [hd] at hk ⊢
      obtain ⟨loc, h1, ds1, a1, a2, a3⟩ := xops_spl (xfun_spl hS (xcode_spl hS fuel)) pre [] h ds _ hk
      obtain ⟨x, e, h2, ds2, b1, b2, b3⟩ := xcode_spl hS fuel _ _ _ _ _ _ _ _ a1
      obtain ⟨v, h3, ds3, c1, c2, c3⟩ := E1_spl hS K b1
      exact ⟨v, h3, ds3, c1, Nat.le_trans a2 (Nat.le_trans b2 c2), fun K' hk' => a3 _ (b3 _ (c3 K' hk'))⟩
    | none =>
      simp only [hd] at hk ⊢
      obtain ⟨x, e, h2, ds2, b1, b2, b3⟩ := xcode_spl hS fuel _ _ _ _ _ _ _ _ hk
      cases x with
      | nrm =>
        obtain ⟨v, h3, ds3, c1, c2, c3⟩ := ihb e h2 ds2 K b1
        exact ⟨v, h3, ds3, c1, Nat.le_trans b2 c2, fun K' hk' => b3 _ (c3 K' hk')⟩
      | _ =>
        obtain ⟨v, h3, ds3, c1, c2, c3⟩ := E0_spl K b1
        exact ⟨v, h3, ds3, c1, Nat.le_trans b2 c2, fun K' hk' => b3 _ (c3 K' hk')⟩
  | _ => intro env h ds K hk; exact hk.elim
theorem xD_spl {C : Cfg} (hS : SplCon C) {fuel f : Nat} (args : List AV) (h : H) (ds : List Bool) : Spl h (fun K => xD C P fuel f args h ds K) := by
  intro K hk
  show ∃ v h' ds', K v h' ds' ∧ h.next ≤ h'.next ∧ ∀ K' : KV, K' v h' ds' → xD C P fuel f args h ds K'
  unfold xD at hk ⊢
  cases hf : P.funcs[f]? with
  | none => simp only [hf] at hk
  | some fn =>
    simp only [hf] at hk ⊢
    cases hb : fn.body with
    | none => simp only [hb] at hk
    | some b =>
      simp only [hb] at hk ⊢
      cases hl : Nat.ble (llen args) fn.ntmps with
      | false => rw [hl] at hk; exact hk.elim
      | true =>
        rw [hl] at hk
        exact xdef_spl hS b _ h ds K hk
/-- marks that are struck out, one by one -/
theorem strip_marks {L0 L : LM} {h0 h : H} {w0 : World} {U : Nat} : ∀ {Ds : List Nat} {fr : Frame} {cs : List Frame} {w : World}, fr.mode = .returning → fr.defers = Ds.map mark → Ds.Nodup → (∀ D ∈ Ds, w0.heap.size ≤ D ∧ w.heap[D]? = some (.deferred (some [])) ∧ ∀ i p, L i = some p → p.B ≠ D) →
    RH L h w U → Step L0 L h0 h w0 w → ∃ w', StepsIn (Machine.fenced P (WF none)) P (lone fr cs w) (lone { fr with defers := [] } cs w') ∧ RH L h w' U ∧ Step L0 L h0 h w0 w'
  | [], fr, cs, w, hm, hd, _, _, r, s => by
    have hd : fr.defers = [] := hd
    have : ({ fr with defers := [] } : Frame) = fr := by rw [← hd]
    rw [this]
    exact ⟨w, StepsIn.refl _, r, s⟩
  | D :: Ds, fr, cs, w, hm, hd, hn, hD, r, s => by
    obtain ⟨d1, d2, d3⟩ := hD D List.mem_cons_self
    have h1 := step_collected (P := P) (cs := cs) (d := mark D) (ds := Ds.map mark) (by rw [hm]; simp) hd rfl (run_takeDeferred d2)
    obtain ⟨w', q1, q2, q3⟩ := strip_marks (Ds := Ds) (fr := { fr with defers := [] ++ Ds.map mark }) (cs := cs) (w := w.putObj D (.deferred none)) hm rfl (List.nodup_cons.1 hn).2 (fun D' hD' => by
      obtain ⟨e1, e2, e3⟩ := hD D' (List.mem_cons_of_mem _ hD')
      have hne : D' ≠ D := fun e => (List.nodup_cons.1 hn).1 (e ▸ hD')
      exact ⟨e1, (World.putObj_heap_other hne).trans e2, e3⟩) (rh_off r _ d3) (step_off s _ d1)
    exact ⟨w', .head (fenced_WF _) h1 q1, q2, q3⟩
theorem leave_marksR {fn : Func} {tmps : Array Value} {R : Ending → World → Prop} {L : LM} {h0 h : H} {L0 : LM} {w0 : World} {U : Nat} {rest : List Deferred} : ∀ {Ds : List Nat} {w : World}, Ds.Nodup → (∀ D ∈ Ds, w0.heap.size ≤ D ∧ w.heap[D]? = some (.deferred (some [])) ∧ ∀ i p, L i = some p → p.B ≠ D) →
    RH L h w U → Step L0 L h0 h w0 w → (∀ w', RH L h w' U → Step L0 L h0 h w0 w' → LeavesInM (WF none) 0 P fn tmps R rest .returning w') → LeavesInM (WF none) 0 P fn tmps R (Ds.map mark ++ rest) .returning w
  | [], w, _, _, r, s, hk => hk w r s
  | D :: Ds, w, hn, hd, r, s, hk => by
    obtain ⟨d1, d2, d3⟩ := hd D List.mem_cons_self
    refine ⟨by simp, .inl ⟨D, w.putObj D (.deferred none), rfl, run_takeDeferred d2, ?_⟩⟩
    refine leave_marksR (List.nodup_cons.1 hn).2 (fun D' hD' => ?_) (rh_off r _ d3) (step_off s _ d1) hk
    obtain ⟨e1, e2, e3⟩ := hd D' (List.mem_cons_of_mem _ hD')
    have hne : D' ≠ D := fun e => (List.nodup_cons.1 hn).1 (e ▸ hD')
    exact ⟨e1, (World.putObj_heap_other hne).trans e2, e3⟩
/-- a function without a contract, called as a deferred one -/
theorem callsD_sound {C : Cfg} (hC : ConOK C P) {X : XCode} (hS : SplCode X) (hX : CodeOK C P C.gl X) {q : Nat} {args : List AV} {h : H} {ds : List Bool} {KV : KV} (hf0 : Nat.ble (Nat.succ q) YK = true) (hcon : C.con q = none) (hk : xfun C P X q args h ds KV)
    {L : LM} {w : World} {args' : Array Value} {U : Nat} (rg : RG L C.gl) (hargs : RVs L args args'.toList) (rh : RH L h w U) (hU : ∀ v h' ds', KV v h' ds' → h'.next ≤ U) :
    enterable P q = true ∧ CallsDIn (WF none) 0 P q args' .returning w (fun e u' w' => u' = .returning ∧ ∃ v h' ds' L' v', e = .returned v' ∧ KV v h' ds' ∧ RV L' v v' ∧ RH L' h' w' U ∧ Step L L' h h' w w') := by
  unfold xfun at hk
  rw [hf0] at hk
  cases he : enterable P q with
  | false => rw [he] at hk; exact hk.elim
  | true =>
  rw [he] at hk
  refine ⟨rfl, ?_⟩
  simp only [hcon] at hk
  cases hf : P.funcs[q]? with
  | none => simp only [hf] at hk
  | some fn =>
    simp only [hf] at hk
    cases hb : fn.body with
    | none => simp only [hb] at hk
    | some b =>
      simp only [hb] at hk
      cases hl : Nat.ble (llen args) fn.ntmps with
      | false => rw [hl] at hk; exact hk.elim
      | true =>
        rw [hl] at hk
        have hl := Nat.le_of_ble_eq_true hl
        rw [llen_eq] at hl
        have hsz : args'.size = args.length := by have := hargs.length; simpa using this.symm
        have hw := hX none _ _ _ _ _ _ _ _ (fun _ => ⟨rfl, fn, b, hf, hb, rfl, rfl, .here⟩) hk L { tmps := args' ++ Array.replicate (fn.ntmps - args'.size) undef, defers := [] } w U (fun x e h' ds' hx => by
          cases x <;> first
            | exact hx.elim
            | (obtain ⟨vs, a, _⟩ := xres_split hx; exact hU _ _ _ a)) rg ⟨fun t v ht => by
              obtain ⟨j, rfl, e2, _⟩ := get_argEnv ht
              obtain ⟨v', a, b⟩ := hargs.get e2
              have hj : j < args'.size := by have := (List.getElem?_eq_some_iff.1 a).1; simpa using this
              have a : args'[j]? = some v' := by simpa using a
              rw [Nat.zero_add, Array.getD_eq_getD_getElem?, Array.getElem?_append_left hj, a]
              exact b, fun t v ht => by
              obtain ⟨j, _, _, e3⟩ := get_argEnv ht
              exact e3⟩ (by simp; omega) rh
        refine ⟨trivial, fun c₀ cs hu hr => ?_⟩
        let bb : Frame := { (default : Frame) with fn := q, kind := .deferred, roundOf := none }
        have henter : Frame.enter P q args' .deferred = bb.atR { tmps := args' ++ Array.replicate (fn.ntmps - args'.size) undef, defers := [] } [.code b] := by
          simp [Frame.enter, Frame.atR, hf, hb, bb]
        have hc : ({ c₀ with mode := .returning } : Frame) = c₀ := by rw [← hu]
        obtain ⟨e, a', w', hq, harr⟩ := hw bb [] (c₀ :: cs) rfl trivial (room_WF _ _)
        rw [← henter] at harr
        obtain ⟨x, env', h', ds', L', rfl, k1, k2, k3, ⟨Ds, k4, k4b, k4c⟩, k5, k6⟩ := hq
        have k4 : a'.defers = Ds.map mark := by rw [k4]; simp
        have fin : ∀ todo, (xres C.mode P env' h' ds' fn.results.toList fun vs => KV (one1 vs) h' ds') → StepsIn (Machine.fenced P (WF none)) P (lone (Frame.enter P q args' .deferred) (c₀ :: cs) w) (lone { bb.atR a' todo with mode := .returning } (c₀ :: cs) w') →
            ∃ e u' w'' fr, (u' = FrameMode.returning ∧ ∃ v h' ds' L' v', e = .returned v' ∧ KV v h' ds' ∧ RV L' v v' ∧ RH L' h' w'' U ∧ Step L L' h h' w w'') ∧ ComesIn (Machine.fenced P (WF none)) P (lone (Frame.enter P q args' .deferred) (c₀ :: cs) w) (lone fr ({ c₀ with mode := u' } :: cs) w'') e ∧ fr.kind = .deferred ∧ fr.fn = q ∧ fr.going P w'' e := by
          intro todo k1 hs
          obtain ⟨w2, s1, r2, s2⟩ := strip_marks (P := P) (fr := { bb.atR a' todo with mode := .returning }) (cs := c₀ :: cs) rfl k4 k4b k4c k5 k6
          obtain ⟨v, v', q1, q2, q3⟩ := xres_sound (K := fun v => KV v h' ds') r2 k2 k1
          refine ⟨.returned v', .returning, w2, { { bb.atR a' todo with mode := .returning } with defers := [] }, ⟨rfl, v, h', ds', L', v', rfl, q1, q2, r2, s2⟩, ?_, rfl, rfl, rfl, rfl, fn, hf, q3⟩
          rw [hc]
          exact StepsIn.trans hs s1
        cases x with
        | nrm => exact fin [] k1 (StepsIn.trans harr (.one (fenced_WF _) (stepR_end rfl)))
        | ret =>
          obtain ⟨todo, hs⟩ := harr.1 rfl
          exact fin todo k1 hs
        | _ => exact k1.elim
/-- operations as far as a place in a region -/
theorem xops_soundT {m : Bool} {ro : Option Nat} {gl : Glob} {call : XCall} (hc : CallsOK P gl call) (hs : SplCall call) {n : Nat} {env : Env} {ops : Array Oper} {tl : List Nat} {post : List Oper} {K : Lo → H → List Bool → Prop} {Q : Exit → Act → World → Prop} {L0 : LM} {h0 : H} {w0 : World} {D : List Deferred} {U : Nat} (hU : ∀ loc h ds, K loc h ds → h.next ≤ U)
    (hQ : ∀ loc h ds L a w, K loc h ds → RL L loc env a → a.tmps.size = n → a.defers = D → RH L h w U → Step L0 L h0 h w0 w → wpOpsIn (WF ro) 0 P ops Q tl a w) :
    ∀ (rest pre : List Oper) (loc : Lo) (h : H) (ds : List Bool), ops.toList = pre ++ rest ++ post → xops m P gl call n env ops.toList rest loc h ds K →
      ∀ (L : LM) (a : Act) (w : World), RG L gl → RL L loc env a → a.tmps.size = n → a.defers = D → RH L h w U → Step L0 L h0 h w0 w → wpOpsIn (WF ro) 0 P ops Q (List.range' pre.length rest.length ++ tl) a w
  | [], pre, loc, h, ds, hall, hk, L, a, w, rg, hl, hn, hd, r, s => hQ _ _ _ _ _ _ hk hl hn hd r s
  | o :: rest, pre, loc, h, ds, hall, hk, L, a, w, rg, hl, hn, hd, r, s => by
    have hget : ops[pre.length]? = some o := by
      have : ops.toList[pre.length]? = some o := by rw [hall]; simp
      simpa using this
    have hk : wants ops.toList loc env o.guard (fun b => Bool.rec
      (putL n o.dst (.tup []) loc fun loc => xops m P gl call n env ops.toList rest loc h ds K)
      (xact m P call (opd gl loc env) o.op h ds fun v h ds => putL n o.dst v loc fun loc => xops m P gl call n env ops.toList rest loc h ds K) b) := hk
    obtain ⟨b, hk, hw⟩ := wants_sound rfl hk hl rfl
    have ih := xops_soundT (m := m) (ro := ro) (ops := ops) (tl := tl) (post := post) hc hs (L0 := L0) (h0 := h0) (w0 := w0) (D := D) hU hQ rest (pre ++ [o])
    have hall' : ops.toList = (pre ++ [o]) ++ rest ++ post := by rw [hall]; simp
    have hlen : (pre ++ [o]).length = pre.length + 1 := by simp
    show wpOpsIn (WF ro) 0 P ops Q (List.range' pre.length (rest.length + 1) ++ tl) a w
    rw [List.range'_succ, List.cons_append]
    simp only [wpOpsIn, hget, hw]
    cases b with
    | false =>
      simp only [Bool.false_eq_true, if_false]
      obtain ⟨loc', k1, k2, k3, k4⟩ := putL_sound hk hn hl (v' := undef) (.tup [] #[] .nil)
      have := ih loc' h ds hall' k1 L _ w rg k2 k3 (k4.trans hd) r s
      rw [hlen] at this
      exact ⟨fun _ _ => trivial, this⟩
    | true =>
      simp only [if_true]
      refine xact_sound hc hk (U := U) (fun v h' ds' hk' => ?_) rg (fun x => opd_rel rg hl x) r ?_
      · obtain ⟨loc', k1, _, _, _⟩ := putL_split hk'
        obtain ⟨loc2, h2, ds2, k2, k3, _⟩ := xops_spl hs rest loc' h' ds' K k1
        exact Nat.le_trans k3 (hU _ _ _ k2)
      intro v h' ds' L' v' w' q1 q2 q3 q4
      obtain ⟨loc', k1, k2, k3, k4⟩ := putL_sound q1 hn (hl.mono q4.ext) q2
      have := ih loc' h' ds' hall' k1 L' _ w' (rg.mono q4.ext) k2 k3 (k4.trans hd) q3 (s.trans q4)
      rwa [hlen] at this
/-- what a function that defers answers -/
def RD (K : KV) (L0 : LM) (h0 : H) (w0 : World) (U : Nat) (e : Ending) (w' : World) : Prop := ∃ v h' ds' L' v', e = .returned v' ∧ K v h' ds' ∧ RV L' v v' ∧ RH L' h' w' U ∧ Step L0 L' h0 h' w0 w'
theorem xdef_sound {C : Cfg} (hC : ConOK C P) (hS : SplCon C) {fuel f : Nat} {fn : Func} {b0 : Code} (hf : P.funcs[f]? = some fn) (hb0 : fn.body = some b0) {K : KV} {L0 : LM} {h0 : H} {w0 : World} {U : Nat} (hU : ∀ v h' ds', K v h' ds' → h'.next ≤ U) :
    ∀ (code : Code), Inc b0 code → ∀ (env : Env) (h : H) (ds : List Bool), xdef C P fuel f (C.mask f) fn.ntmps fn.results.toList code env h ds K → ∀ (L : LM) (a : Act) (w : World), RG L C.gl → RE' L (C.mask f) env a → a.tmps.size = fn.ntmps → RH L h w U → Step L0 L h0 h w0 w → DSt L w0 [] a.defers w →
      code.wpIn (WF none) 0 P (bodyPostM (WF none) 0 P fn (RD K L0 h0 w0 U)) a w := by
  have X := xcode_code hC hS fuel
  have S := xcode_spl (P := P) hS fuel
  have calls := xfun_sound hC S X
  have leave0 : ∀ {h' : H} {ds' : List Bool} {env : Env} {L' : LM} {a' : Act} {w' : World}, (xres C.mode P env h' ds' fn.results.toList fun vs => K (one1 vs) h' ds') → RE' L' (C.mask f) env a' → RH L' h' w' U → Step L0 L' h0 h' w0 w' → DSt L' w0 [] a'.defers w' → LeavesInM (WF none) 0 P fn a'.tmps (RD K L0 h0 w0 U) a'.defers .returning w' := by
    intro h' ds' env L' a' w' k1 k2 k5 k6 hd
    obtain ⟨Ds, k4, k4b, k4c⟩ := hd
    have k4 : a'.defers = Ds.map mark := by rw [k4]; simp
    rw [k4]
    refine leave_marks k4b k4c k5 k6 fun w2 r2 s2 => ?_
    obtain ⟨v, v', q1, q2, q3⟩ := xres_sound (K := fun v => K v h' ds') r2 k2 k1
    exact ⟨v', q3, v, h', ds', L', v', rfl, q1, q2, r2, s2⟩
  intro code
  induction code with
  | seq x y ihx ihy =>
    intro inc env h ds hk L a w rg re hn r s d
    unfold xdef at hk
    cases hd : dfrC x with
    | none =>
      simp only [hd] at hk
      refine wpIn_seq (wpIn_mono (X none f x (C.mask f) fn.ntmps env h ds _ (fun _ => ⟨rfl, fn, b0, hf, hb0, rfl, rfl, inc.seql⟩) hk L a w U ?_ rg re hn r) ?_)
      · intro x e h' ds' hx
        cases x with
        | nrm =>
          obtain ⟨v, h2, ds2, q1, q2, _⟩ := xdef_spl hS y _ _ _ K hx
          exact Nat.le_trans q2 (hU _ _ _ q1)
        | _ =>
          obtain ⟨v, h2, ds2, q1, q2, _⟩ := E0_spl K hx
          exact Nat.le_trans q2 (hU _ _ _ q1)
      · rintro e a' w' ⟨x, env', h', ds', L', rfl, k1, k2, k3, k4, k5, k6⟩
        have d' := d.trans s.size k6 k4
        cases x with
        | nrm => exact ihy inc.seqr env' h' ds' k1 L' a' w' (rg.mono k6.ext) k2 k3 k5 (s.trans k6) d'
        | ret => exact leave0 k1 k2 k5 (s.trans k6) d'
        | _ => exact k1.elim
    | some z =>
      obtain ⟨ops, pre, o, q, as⟩ := z
      simp only [hd] at hk
      obtain ⟨id, rfl, hops, hg, hdst, c, hop, hcal, hargs⟩ := dfrC_spec hd
      refine wpIn_seq (wpIn_region ?_)
      have hsz : ops.size = pre.length + 1 := by
        have := congrArg List.length hops
        simpa using this
      have hrange : List.range ops.size = List.range' ([] : List Oper).length pre.length ++ [pre.length] := by
        rw [hsz, List.range_succ, List.range_eq_range']; rfl
      rw [hrange]
      refine xops_soundT (m := C.mode) (ro := none) (gl := C.gl) (post := [o]) calls (xfun_spl hS S) (D := a.defers) (U := U) (L0 := L) (h0 := h) (w0 := w) ?_ ?_ pre [] [] h ds (by rw [hops]; rfl) hk L a w rg re.loc hn rfl r (Step.refl _ _ _)
      · intro loc h1 ds1 hx
        obtain ⟨x, e, h2, ds2, b1, b2, _⟩ := S _ _ _ _ _ _ _ _ hx
        obtain ⟨v, h3, ds3, q1, q2, _⟩ := E1_spl hS K b1
        exact Nat.le_trans b2 (Nat.le_trans q2 (hU _ _ _ q1))
      · intro loc h1 ds1 L1 a1 w1 k1 k2 k3 k4 k5 k6
        have hget : ops[pre.length]? = some o := by
          have : ops.toList[pre.length]? = some o := by rw [hops]; simp
          simpa using this
        have d1 : DSt L1 w0 [] a1.defers w1 := by rw [k4]; exact d.step k6
        have hwant : Region.wanted o (yielded ops a1.tmps) = true := by simp [Region.wanted, hg]
        show wpOpsIn (WF none) 0 P ops _ [pre.length] a1 w1
        simp only [wpOpsIn, hget, hwant, if_true]
        have hrun : (o.semAt (WF none).round a1.eval).run P w1 = .ok (.defer { target := .fn (.func q) #[], args := c.args.map a1.eval }) w1 := by
          show (o.semAt none a1.eval).run P w1 = _
          rw [Oper.semAt_none]
          simp [execOp, hop, resolve, hcal, Deferred.ofValue, Act.eval]
        refine ⟨fun _ _ => trivial, ?_⟩
        rw [hrun, Oper.uponIn_defer, hdst]
        show y.wpIn (WF none) 0 P _ { a1 with defers := { target := .fn (.func q) #[], args := c.args.map a1.eval } :: a1.defers } w1
        have rv : RVs L1 (lmap (opd C.gl loc env) as) (c.args.map a1.eval).toList := by
          rw [← hargs, lmap_eq]
          simpa using rvs_map (fun x => opd_rel (rg.mono k6.ext) k2 x) c.args.toList
        refine wpIn_mono (X none f y (C.mask f) fn.ntmps _ h1 ds1 _ (fun _ => ⟨rfl, fn, b0, hf, hb0, rfl, rfl, inc.seqr⟩) k1 L1 _ w1 U ?_ (rg.mono k6.ext) ⟨fun t v ht => by
            obtain ⟨rfl, _⟩ := flush_rel re.bits t v ht
            exact k2 t, fun t v ht => (flush_rel re.bits t v ht).2⟩ k3 k5) ?_
        · intro x e h' ds' hx
          obtain ⟨v, h3, ds3, q1, q2, _⟩ := E1_spl hS K hx
          exact Nat.le_trans q2 (hU _ _ _ q1)
        · rintro e a' w' ⟨x, env', h', ds', L', rfl, q1, q2, q3, ⟨Ds, m1, m2, m3⟩, q5, q6⟩
          have fin : callD C P fuel fn.results.toList K q (lmap (opd C.gl loc env) as) env' h' ds' → LeavesInM (WF none) 0 P fn a'.tmps (RD K L0 h0 w0 U) a'.defers .returning w' := by
            intro q1
            unfold callD at q1
            cases hcn : C.con q with
            | some z => simp only [hcn] at q1
            | none =>
              simp only [hcn] at q1
              cases hbl : Nat.ble (Nat.succ q) YK with
              | false => rw [hbl] at q1; exact q1.elim
              | true =>
                rw [hbl] at q1
                rw [m1]
                refine leave_marksR m2 m3 q5 q6 fun w2 r2 s2 => ?_
                obtain ⟨hen, hcall⟩ := callsD_sound hC S X hbl hcn q1 (L := L') (w := w2) (args' := c.args.map a1.eval) (U := U) (rg.mono (k6.ext.trans s2.ext)) (rv.mono s2.ext) r2 (fun v h3 ds3 hx => by
                  obtain ⟨vs, x1, _⟩ := xres_split hx
                  exact hU _ _ _ x1)
                refine ⟨by simp, .inr ⟨(fun h => by simp [WF] at h), .func q, #[], q, c.args.map a1.eval, rfl, ?_, fun _ _ => trivial, hcall.mono ?_⟩⟩
                · show (invoke (.fn (.func q) #[]) (c.args.map a1.eval)).run P w2 = _
                  have := run_enter hen (c.args.map a1.eval) w2
                  simpa [invoke] using this
                · rintro e u' w3 ⟨rfl, v, h3, ds3, L3, v', rfl, x1, x2, x3, x4⟩
                  show LeavesInM (WF none) 0 P fn a'.tmps (RD K L0 h0 w0 U) a1.defers .returning w3
                  have q2' : RE' L' (C.mask f) env' { a' with defers := a1.defers } := ⟨q2.get, q2.bits⟩
                  exact leave0 (a' := { a' with defers := a1.defers }) x1 (q2'.mono x4.ext) x3 (((s.trans k6).trans s2).trans x4) ((d1.step s2).step x4)
          cases x with
          | nrm => exact fin q1
          | ret => exact fin q1
          | _ => exact q1.elim
  | _ => intro inc env h ds hk; exact hk.elim
theorem xD_ok {C : Cfg} (hC : ConOK C P) (hS : SplCon C) {fuel f : Nat} {args : List AV} {h : H} {ds : List Bool} {K : KV} (hk : xD C P fuel f args h ds K) : CallOK P C.gl f args h K := by
  unfold xD at hk
  cases hf : P.funcs[f]? with
  | none => simp only [hf] at hk
  | some fn =>
    simp only [hf] at hk
    cases hb : fn.body with
    | none => simp only [hb] at hk
    | some b =>
      simp only [hb] at hk
      cases hl : Nat.ble (llen args) fn.ntmps with
      | false => rw [hl] at hk; exact hk.elim
      | true =>
        rw [hl] at hk
        have hl := Nat.le_of_ble_eq_true hl
        rw [llen_eq] at hl
        intro L w args' U rg hargs rh hU
        have hsz : args'.size = args.length := by have := hargs.length; simpa using this.symm
        refine callsOfWF (n := 0) (callsIn_of_wp_marks hf hb trivial (xdef_sound hC hS hf hb hU b .here _ h ds hk L _ w rg ?_ ?_ rh (Step.refl _ _ _) (.refl _ _ _ _)) rfl)
        · refine ⟨fun t v ht => ?_, fun t v ht => ?_⟩
          · obtain ⟨j, rfl, e2, _⟩ := get_argEnv ht
            obtain ⟨v', a, b⟩ := hargs.get e2
            have hj : j < args'.size := by have := (List.getElem?_eq_some_iff.1 a).1; simpa using this
            have a : args'[j]? = some v' := by simpa using a
            rw [Nat.zero_add, Array.getD_eq_getD_getElem?, Array.getElem?_append_left hj, a]
            exact b
          · obtain ⟨j, _, _, e3⟩ := get_argEnv ht
            exact e3
        · simp; omega
theorem Good.addDef {C : Cfg} (G : Good C P) (f fuel : Nat) : Good (C.addCon f (xD C P fuel f)) P :=
  G.addCon f _ (fun args h ds => xD_spl G.spl args h ds) (fun args h ds K hk => xD_ok G.ok G.spl hk)
end
end
end Go.X

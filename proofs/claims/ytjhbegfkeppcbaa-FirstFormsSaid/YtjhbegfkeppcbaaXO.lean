/- Code and calls: the executor's are the model's. -/
import Derived.Test.YtjhbegfkeppcbaaXN
set_option autoImplicit false
namespace Go.X
noncomputable section
section
variable {P : Program}

/-- a region that draws its order -/
def DrawOK (P : Program) (m : Bool) : Prop := ∀ {call : XCall}, CallsOK P call → SplCall call → ∀ {n : Nat} {env : Env} {id : Nat} {ops : Array Oper} {h : H} {ds : List Bool}
  {K : Lo → H → List Bool → Prop} {Q : Exit → Act → World → Prop} {D : List Deferred} {U : Nat} {L : LM} {a : Act} {w : World},
  xdraw m P call n env ops.toList h ds K → (∀ loc h ds, K loc h ds → h.next ≤ U) → RL L [] env a → a.tmps.size = n → a.defers = D → RH L h w U →
  (∀ loc h' ds' L' a' w', K loc h' ds' → RL L' loc env a' → a'.tmps.size = n → a'.defers = D → RH L' h' w' U → Step L L' h h' w w' → Q .normal a' w') →
  (Code.region id ops true).wp P Q a w

def XE.exit (x : XE) : Exit := match x with
  | .nrm => .normal
  | .ext i => .exit i
  | .gto i => .goto i
  | .ret => .ret

/-- what a run of code comes to -/
def CPost (K : KE) (U : Nat) (L : LM) (h : H) (w : World) (mask n : Nat) (e : Exit) (a' : Act) (w' : World) : Prop :=
  ∃ x env' h' ds' L', e = XE.exit x ∧ K x env' h' ds' ∧ RE' L' mask env' a' ∧ a'.tmps.size = n ∧ a'.defers = [] ∧ RH L' h' w' U ∧ Step L L' h h' w w'
def CodeOK (P : Program) (X : XCode) : Prop := ∀ code mask n env h ds (K : KE), X code mask n env h ds K → ∀ (L : LM) (a : Act) (w : World) (U : Nat),
  (∀ x e h' ds', K x e h' ds' → h'.next ≤ U) → RE' L mask env a → a.tmps.size = n → a.defers = [] → RH L h w U → code.wp P (CPost K U L h w mask n) a w

/-- a loop that has entered a round -/
def LoopWp (P : Program) (c : Code) (Q : Exit → Act → World → Prop) (a : Act) (w : World) : Prop := ∀ (b : Frame) (k : List Item) (cs : List Frame),
  ∃ e a' w', Q e a' w' ∧ Arrives P (lone (b.at a (.code c :: .inLoop c :: k)) cs w) b k cs e a' w'
theorem LoopWp.wp {c : Code} {Q : Exit → Act → World → Prop} {a : Act} {w : World} (h : LoopWp P c Q a w) : (Code.loop c).wp P Q a w := fun b k cs =>
  let ⟨e, a', w', q, r⟩ := h b k cs
  ⟨e, a', w', q, .of_steps (.one step_loop) r⟩
theorem LoopWp.round {c : Code} {Q : Exit → Act → World → Prop} {a : Act} {w : World} (h : c.wp P (Exit.then (LoopWp P c Q) Q) a w) : LoopWp P c Q a w := by
  intro b k cs
  obtain ⟨e, a₁, w₁, hq, harr⟩ := h b (.inLoop c :: k) cs
  cases e with
  | normal =>
    obtain ⟨e₂, a₂, w₂, hq₂, harr₂⟩ := hq b k cs
    exact ⟨e₂, a₂, w₂, hq₂, .of_steps (Steps.trans harr (.one step_inLoop)) harr₂⟩
  | exit id => exact ⟨_, a₁, w₁, hq, .pass (x := .inLoop c) rfl (fun _ _ => .inl (by simp)) harr⟩
  | goto l => exact ⟨_, a₁, w₁, hq, .pass (x := .inLoop c) rfl (fun _ _ => .inl (by simp)) harr⟩
  | ret => exact ⟨_, a₁, w₁, hq, .pass (x := .inLoop c) rfl (fun _ _ => .inl (by simp)) harr⟩
  | panic ch => exact ⟨_, a₁, w₁, hq, .pass (x := .inLoop c) rfl (fun _ _ => .inl (by simp)) harr⟩
  | outgrown => exact ⟨_, a₁, w₁, hq, .pass (x := .inLoop c) rfl (fun _ _ => .inl (by simp)) harr⟩
theorem LoopWp.mono {c : Code} {Q Q' : Exit → Act → World → Prop} {a : Act} {w : World} (h : LoopWp P c Q a w) (hq : ∀ e a w, Q e a w → Q' e a w) : LoopWp P c Q' a w := fun b k cs =>
  let ⟨e, a', w', q, r⟩ := h b k cs
  ⟨e, a', w', hq _ _ _ q, r⟩

theorem CPost.here {K : KE} {U : Nat} {L : LM} {h : H} {w : World} {mask n : Nat} {x : XE} {env : Env} {ds : List Bool} {a : Act} (hk : K x env h ds) (r : RE' L mask env a) (hn : a.tmps.size = n) (hd : a.defers = [])
    (rh : RH L h w U) : CPost K U L h w mask n (XE.exit x) a w := ⟨x, env, h, ds, L, rfl, hk, r, hn, hd, rh, Step.refl L h w⟩
theorem CPost.lift {K K' : KE} {U : Nat} {L L' : LM} {h h' : H} {w w' : World} {mask n : Nat} {e : Exit} {a : Act} {w2 : World} (s : Step L L' h h' w w') (hK : ∀ x e h ds, K x e h ds → K' x e h ds)
    (c : CPost K U L' h' w' mask n e a w2) : CPost K' U L h w mask n e a w2 := by
  obtain ⟨x, env, h2, ds, L2, a1, a2, a3, a4, a5, a6, a7⟩ := c
  exact ⟨x, env, h2, ds, L2, a1, hK _ _ _ _ a2, a3, a4, a5, a6, s.trans a7⟩

theorem get_argEnv {mask : Nat} : ∀ {args : List AV} {k t : Nat} {v : AV},
    T.get (List.rec (motive := fun _ => Nat → Env) (fun _ => T.leaf) (fun a _ ih k => Bool.rec (ih (Nat.succ k)) (T.set (ih (Nat.succ k)) a k) (bit mask k)) args k) t = some v →
    ∃ j, t = k + j ∧ args[j]? = some v ∧ bit mask t = true
  | [], k, t, v, h => by cases t <;> cases h
  | a :: args, k, t, v, h => by
    dsimp only at h
    cases hb : bit mask k with
    | false =>
      rw [hb] at h
      obtain ⟨j, e1, e2, e3⟩ := get_argEnv (args := args) h
      exact ⟨j + 1, by omega, by simpa using e2, e3⟩
    | true =>
      rw [hb] at h
      rcases T.get_set h with ⟨rfl, rfl⟩ | ⟨_, h⟩
      · exact ⟨0, rfl, rfl, hb⟩
      · obtain ⟨j, e1, e2, e3⟩ := get_argEnv (args := args) h
        exact ⟨j + 1, by omega, by simpa using e2, e3⟩

def resF (tmps : Array Value) (r : ResultVar) : Sem Value := match r with
  | .tmp t => pure (tmps.getD t undef)
  | .cell a t => do loadVar t (← asAddr (tmps.getD a undef))
theorem results_eq (fn : Func) (tmps : Array Value) : results fn tmps = (do
    let vs ← fn.results.mapM (resF tmps)
    pure (if h : vs.size = 1 then vs[0] else .tuple vs)) := rfl
theorem resF_cell {tmps : Array Value} {x : Nat} {t : TypeId} {v' : Value} {w : World} (b2 : (Instr.loadAt t (tmps.getD x undef)).run P w = .ok v' w) : (resF tmps (.cell x t)).run P w = .ok v' w := by
  unfold resF
  dsimp only
  generalize tmps.getD x undef = y at b2 ⊢
  cases y with
  | pointer o => cases o with
    | none => simp [Instr.loadAt, Instr.sureAddr, stuck] at b2
    | some y => rw [← b2]; simp [Instr.loadAt, Instr.sureAddr, asAddr]
  | _ => simp [Instr.loadAt, Instr.sureAddr, stuck] at b2
theorem xres_list {m : Bool} {L : LM} {h : H} {w : World} {U : Nat} (rh : RH L h w U) {mask : Nat} {env : Env} {a : Act} (r : RE' L mask env a) {ds : List Bool} : ∀ {rs : List ResultVar} {K : List AV → Prop},
    xres m P env h ds rs K → ∃ vs vs', K vs ∧ RVs L vs vs' ∧ (rs.mapM (resF a.tmps)).run P w = .ok vs' w
  | [], K, hk => ⟨[], [], hk, .nil, by simp⟩
  | res :: rs, K, hk => by
    cases res with
    | tmp t =>
      have hk : xres m P env h ds rs (fun vs => K (eget env t :: vs)) := hk
      obtain ⟨vs, vs', a1, a2, a3⟩ := xres_list rh r hk
      refine ⟨_, _, a1, .cons _ _ _ _ (eget_rel r t) a2, ?_⟩
      have : (resF a.tmps (.tmp t)).run P w = .ok (a.tmps.getD t undef) w := rfl
      simp [List.mapM_cons, a3, this]
    | cell x t =>
      have hk : xload m P t (eget env x) h ds (fun v _ _ => xres m P env h ds rs fun vs => K (v :: vs)) := hk
      obtain ⟨v, ds', v', b1, b2, b3⟩ := xload_ro rh (eget_rel r x) hk
      obtain ⟨vs, vs', a1, a2, a3⟩ := xres_list rh r b1
      refine ⟨_, _, a1, .cons _ _ _ _ b3 a2, ?_⟩
      simp [List.mapM_cons, a3, resF_cell b2]
theorem xres_sound {m : Bool} {L : LM} {h : H} {w : World} {U : Nat} (rh : RH L h w U) {mask : Nat} {env : Env} {a : Act} (r : RE' L mask env a) {ds : List Bool} {fn : Func} {K : AV → Prop}
    (hk : xres m P env h ds fn.results.toList fun vs => K (one1 vs)) : ∃ v v', K v ∧ RV L v v' ∧ (results fn a.tmps).run P w = .ok v' w := by
  obtain ⟨vs, vs', a1, a2, a3⟩ := xres_list rh r hk
  rw [results_eq]
  have a3 : (fn.results.mapM (resF a.tmps)).run P w = .ok vs'.toArray w := by
    rw [Array.mapM_eq_mapM_toList]; simp [a3]
  cases a2 with
  | nil => exact ⟨_, _, a1, .tup [] #[] .nil, by simp [a3]⟩
  | cons x y xs ys hx hxs =>
    cases hxs with
    | nil => exact ⟨_, _, a1, hx, by simp [a3]⟩
    | cons x2 y2 xs ys hx2 hxs => exact ⟨_, _, a1, .tup _ (y :: y2 :: ys).toArray (.cons _ _ _ _ hx (.cons _ _ _ _ hx2 hxs)), by simp [a3]⟩

/-- contracts are true -/
def ConOK (C : Cfg) (P : Program) : Prop := ∀ f c, C.con f = some c → ∀ args h ds KV, c args h ds KV → CallOK P f args h KV
theorem xfun_sound {C : Cfg} (hC : ConOK C P) {X : XCode} (hX : CodeOK P X) : CallsOK P (xfun C P X) := by
  intro f args h ds KV hk
  unfold xfun at hk
  cases he : enterable P f with
  | false => rw [he] at hk; exact hk.elim
  | true =>
    rw [he] at hk
    refine ⟨rfl, ?_⟩
    cases hc : C.con f with
    | some c => simp only [hc] at hk; exact hC f c hc args h ds KV hk
    | none =>
      simp only [hc] at hk
      cases hf : P.funcs[f]? with
      | none => simp only [hf] at hk
      | some fn =>
        simp only [hf] at hk
        cases hb : fn.body with
        | none => simp only [hb] at hk
        | some b =>
          simp only [hb] at hk
          cases hl : Nat.ble (llen args) fn.ntmps with
          | false => rw [hl] at hk; exact hk.elim
          | true =>
            rw [hl] at hk
            have hl := Nat.le_of_ble_eq_true hl
            rw [llen_eq] at hl
            intro L w args' U hargs rh hU
            have hsz : args'.size = args.length := by have := hargs.length; simpa using this.symm
            refine calls_of_wp hf hb (wp_mono (hX _ _ _ _ _ _ _ hk L _ w U ?_ ?_ ?_ rfl rh) ?_)
            · intro x e h' ds' hx
              cases x <;> first
                | exact hx.elim
                | (obtain ⟨vs, a, _⟩ := xres_split hx; exact hU _ _ _ a)
            · refine ⟨fun t v ht => ?_, fun t v ht => ?_⟩
              · obtain ⟨j, rfl, e2, _⟩ := get_argEnv ht
                obtain ⟨v', a, b⟩ := hargs.get e2
                have hj : j < args'.size := by have := (List.getElem?_eq_some_iff.1 a).1; simpa using this
                have a : args'[j]? = some v' := by simpa using a
                rw [Nat.zero_add, Array.getD_eq_getD_getElem?, Array.getElem?_append_left hj, a]
                exact b
              · obtain ⟨j, _, _, e3⟩ := get_argEnv ht
                exact e3
            · simp; omega
            · rintro e a' w' ⟨x, env', h', ds', L', rfl, k1, k2, k3, k4, k5, k6⟩
              cases x <;> first
                | exact k1.elim
                | (obtain ⟨v, v', q1, q2, q3⟩ := xres_sound (K := fun v => KV v h' ds') k5 k2 k1
                   exact ⟨k4, v', q3, v, h', ds', L', v', rfl, q1, q2, k5, k6⟩)

theorem xcode_both {C : Cfg} (hC : ConOK C P) (hS : SplCon C) (hD : DrawOK P C.mode) : ∀ fuel, CodeOK P (xcode C P fuel) ∧
    ∀ c mask n env h ds (K : KE), xcode C P fuel (.loop c) mask n env h ds K → ∀ (L : LM) (a : Act) (w : World) (U : Nat),
      (∀ x e h' ds', K x e h' ds' → h'.next ≤ U) → RE' L mask env a → a.tmps.size = n → a.defers = [] → RH L h w U → LoopWp P c (CPost K U L h w mask n) a w
  | 0 => ⟨fun _ _ _ _ _ _ _ hk => hk.elim, fun _ _ _ _ _ _ _ hk => hk.elim⟩
  | fuel + 1 => by
    obtain ⟨ih, ihl⟩ := xcode_both hC hS hD fuel
    have isp := xcode_spl (P := P) hS fuel
    have hcall := xfun_sound hC ih
    have hcs := xfun_spl (P := P) hS isp
    have loop : ∀ c mask n env h ds (K : KE), xcode C P (fuel + 1) (.loop c) mask n env h ds K → ∀ (L : LM) (a : Act) (w : World) (U : Nat),
      (∀ x e h' ds', K x e h' ds' → h'.next ≤ U) → RE' L mask env a → a.tmps.size = n → a.defers = [] → RH L h w U → LoopWp P c (CPost K U L h w mask n) a w := by
      intro c mask n env h ds K hk L a w U hU re hn hd rh
      have hk : xcode C P fuel c mask n env h ds (fun x env h ds => match x with
        | .nrm => xcode C P fuel (.loop c) mask n env h ds K
        | x => K x env h ds) := hk
      refine .round (wp_mono (ih _ _ _ _ _ _ _ hk L a w U ?_ re hn hd rh) ?_)
      · intro x e h' ds' hx
        cases x with
        | nrm =>
          obtain ⟨x2, e2, h2, ds2, q1, q2, _⟩ := isp _ _ _ _ _ _ _ hx
          exact Nat.le_trans q2 (hU _ _ _ _ q1)
        | _ => exact hU _ _ _ _ hx
      · rintro e a' w' ⟨x, env', h', ds', L', rfl, k1, k2, k3, k4, k5, k6⟩
        cases x with
        | nrm => exact (ihl _ _ _ _ _ _ _ k1 L' a' w' U hU k2 k3 k4 k5).mono fun _ _ _ c => c.lift k6 fun _ _ _ _ h => h
        | ext i => exact ⟨_, env', h', ds', L', rfl, k1, k2, k3, k4, k5, k6⟩
        | gto i => exact ⟨_, env', h', ds', L', rfl, k1, k2, k3, k4, k5, k6⟩
        | ret => exact ⟨_, env', h', ds', L', rfl, k1, k2, k3, k4, k5, k6⟩
    refine ⟨?_, loop⟩
    intro code mask n env h ds K hk L a w U hU re hn hd rh
    have reg : ∀ {loc : Lo} {h' : H} {ds' : List Bool} {L' : LM} {a' : Act} {w' : World}, K .nrm (flush mask loc env) h' ds' → RL L' loc env a' → a'.tmps.size = n → a'.defers = [] → RH L' h' w' U → Step L L' h h' w w' →
        CPost K U L h w mask n .normal a' w' := fun {loc h' ds' L' a' w'} k1 k2 k3 k4 k5 k6 =>
      ⟨.nrm, flush mask loc env, h', ds', L', rfl, k1, ⟨fun t v ht => by
        obtain ⟨rfl, _⟩ := flush_rel re.bits t v ht
        exact k2 t, fun t v ht => (flush_rel re.bits t v ht).2⟩, k3, k4, k5, k6⟩
    cases code with
    | skip => exact wp_skip (.here (x := .nrm) hk re hn hd rh)
    | label l => exact wp_label (.here (x := .nrm) hk re hn hd rh)
    | exit id => exact wp_exit (.here (x := .ext id) hk re hn hd rh)
    | goto l => exact wp_goto (.here (x := .gto l) hk re hn hd rh)
    | ret => exact wp_ret (.here (x := .ret) hk re hn hd rh)
    | rangeFunc => exact hk.elim
    | scope => exact hk.elim
    | refuse => exact hk.elim
    | region id ops draw =>
      cases draw with
      | false =>
        have hk : xops C.mode P (xfun C P (xcode C P fuel)) n env ops.toList ops.toList [] h ds (fun loc h ds => K .nrm (flush mask loc env) h ds) := hk
        refine wp_region ?_
        have := xops_sound (Q := CPost K U L h w mask n) (L0 := L) (h0 := h) (w0 := w) (D := []) (U := U) hcall hcs (fun loc h ds hk => hU _ _ _ _ hk)
          (fun loc h' ds' L' a' w' k1 k2 k3 k4 k5 k6 => reg k1 k2 k3 k4 k5 k6) ops.toList [] [] h ds rfl hk L a w re.loc hn hd rh (Step.refl _ _ _)
        simpa [List.range_eq_range'] using this
      | true =>
        have hk : xdraw C.mode P (xfun C P (xcode C P fuel)) n env ops.toList h ds (fun loc h ds => K .nrm (flush mask loc env) h ds) := hk
        exact hD hcall hcs hk (fun loc h ds hk => hU _ _ _ _ hk) re.loc hn hd rh fun loc h' ds' L' a' w' k1 k2 k3 k4 k5 k6 => reg k1 k2 k3 k4 k5 k6
    | seq x y =>
      have hk : xcode C P fuel x mask n env h ds (fun x env h ds => match x with
        | .nrm => xcode C P fuel y mask n env h ds K
        | x => K x env h ds) := hk
      refine wp_seq (wp_mono (ih _ _ _ _ _ _ _ hk L a w U ?_ re hn hd rh) ?_)
      · intro x e h' ds' hx
        cases x with
        | nrm =>
          obtain ⟨x2, e2, h2, ds2, q1, q2, _⟩ := isp _ _ _ _ _ _ _ hx
          exact Nat.le_trans q2 (hU _ _ _ _ q1)
        | _ => exact hU _ _ _ _ hx
      · rintro e a' w' ⟨x, env', h', ds', L', rfl, k1, k2, k3, k4, k5, k6⟩
        cases x with
        | nrm => exact wp_mono (ih _ _ _ _ _ _ _ k1 L' a' w' U hU k2 k3 k4 k5) fun _ _ _ c => c.lift k6 fun _ _ _ _ h => h
        | ext i => exact ⟨_, env', h', ds', L', rfl, k1, k2, k3, k4, k5, k6⟩
        | gto i => exact ⟨_, env', h', ds', L', rfl, k1, k2, k3, k4, k5, k6⟩
        | ret => exact ⟨_, env', h', ds', L', rfl, k1, k2, k3, k4, k5, k6⟩
    | cond c x y =>
      have hk : (match opd [] env c with
        | .bool t => (Bool.rec (xcode C P fuel y mask n env h ds K) (xcode C P fuel x mask n env h ds K) t : Prop)
        | _ => False) := hk
      have hr := opd_rel re.loc c
      cases hv : opd [] env c <;> rw [hv] at hk <;> try exact hk.elim
      rename_i t
      rw [hv] at hr
      generalize hc : a.eval c = v at hr
      cases hr
      cases t with
      | false => exact wp_cond_false hc (ih _ _ _ _ _ _ _ hk L a w U hU re hn hd rh)
      | true => exact wp_cond_true hc (ih _ _ _ _ _ _ _ hk L a w U hU re hn hd rh)
    | block id c =>
      have hk : xcode C P fuel c mask n env h ds (fun x env h ds => Bool.rec (K x env h ds) (K .nrm env h ds) (isExt x id)) := hk
      refine wp_block (wp_mono (ih _ _ _ _ _ _ _ hk L a w U ?_ re hn hd rh) ?_)
      · intro x e h' ds' hx
        cases hb : isExt x id with
        | true => rw [hb] at hx; exact hU _ _ _ _ hx
        | false => rw [hb] at hx; exact hU _ _ _ _ hx
      · rintro e a' w' ⟨x, env', h', ds', L', rfl, k1, k2, k3, k4, k5, k6⟩
        cases x with
        | ext i =>
          show (if i = id then CPost K U L h w mask n .normal a' w' else CPost K U L h w mask n (.exit i) a' w')
          by_cases e : i = id
          · rw [if_pos e]
            have : isExt (.ext i) id = true := natBeq_iff.2 e
            rw [this] at k1
            exact ⟨.nrm, env', h', ds', L', rfl, k1, k2, k3, k4, k5, k6⟩
          · rw [if_neg e]
            have : isExt (.ext i) id = false := by
              cases hb : isExt (.ext i) id with
              | false => rfl
              | true => exact absurd (natBeq_iff.1 hb) e
            rw [this] at k1
            exact ⟨.ext i, env', h', ds', L', rfl, k1, k2, k3, k4, k5, k6⟩
        | nrm => exact ⟨.nrm, env', h', ds', L', rfl, k1, k2, k3, k4, k5, k6⟩
        | gto i => exact ⟨.gto i, env', h', ds', L', rfl, k1, k2, k3, k4, k5, k6⟩
        | ret => exact ⟨.ret, env', h', ds', L', rfl, k1, k2, k3, k4, k5, k6⟩
    | loop c => exact (loop c mask n env h ds K hk L a w U hU re hn hd rh).wp
end
end
end Go.X

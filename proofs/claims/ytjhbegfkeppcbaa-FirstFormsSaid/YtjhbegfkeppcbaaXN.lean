/- Regions in the order of the text: the executor's are the model's. -/
import Derived.Test.YtjhbegfkeppcbaaXT
set_option autoImplicit false
namespace Go.X
noncomputable section
section
variable {P : Program}

def RL (L : LM) (loc : Lo) (env : Env) (a : Act) : Prop := ∀ t, RV L (look loc env t) (a.tmps.getD t undef)
structure RE' (L : LM) (mask : Nat) (env : Env) (a : Act) : Prop where
  get : ∀ t v, T.get env t = some v → RV L v (a.tmps.getD t undef)
  bits : ∀ t v, T.get env t = some v → bit mask t = true

theorem look_nil (env : Env) (t : Nat) : look [] env t = eget env t := rfl
theorem look_cons (d : Nat) (v : AV) (loc : Lo) (env : Env) (t : Nat) : look ((d, v) :: loc) env t = if d = t then v else look loc env t := by
  show (Bool.rec (look loc env t) v (Nat.beq d t) : AV) = _
  by_cases h : d = t
  · rw [if_pos h, natBeq_iff.2 h]
  · rw [if_neg h]
    cases hb : Nat.beq d t with
    | true => exact absurd (Nat.eq_of_beq_eq_true hb) h
    | false => rfl
theorem eget_rel {L : LM} {mask : Nat} {env : Env} {a : Act} (r : RE' L mask env a) (t : Nat) : RV L (eget env t) (a.tmps.getD t undef) := by
  unfold eget
  cases h : T.get env t with
  | none => exact .any _
  | some v => exact r.get t v h
theorem RE'.loc {L : LM} {mask : Nat} {env : Env} {a : Act} (r : RE' L mask env a) : RL L [] env a := fun t => eget_rel r t
theorem RE'.mono {L L' : LM} (x : Ext L L') {mask : Nat} {env : Env} {a : Act} (r : RE' L mask env a) : RE' L' mask env a :=
  ⟨fun t v h => (r.get t v h).mono x, r.bits⟩
theorem RL.mono {L L' : LM} (x : Ext L L') {loc : Lo} {env : Env} {a : Act} (r : RL L loc env a) : RL L' loc env a := fun t => (r t).mono x
theorem getD_put (a : Act) (d : Nat) (v : Value) (t : Nat) (hd : d < a.tmps.size) : (a.put (some d) v).tmps.getD t undef = if d = t then v else a.tmps.getD t undef := by
  simp only [Act.put, Array.getD_eq_getD_getElem?, Array.getElem?_setIfInBounds]
  by_cases h : d = t
  · subst h; simp [hd]
  · simp [h]
theorem putL_sound {n : Nat} {dst : Option Nat} {v : AV} {v' : Value} {loc : Lo} {K : Lo → Prop} (hk : putL n dst v loc K) {L : LM} {env : Env} {a : Act} (hn : a.tmps.size = n)
    (r : RL L loc env a) (hv : RV L v v') : ∃ loc', K loc' ∧ RL L loc' env (a.put dst v') ∧ (a.put dst v').tmps.size = n ∧ (a.put dst v').defers = a.defers := by
  unfold putL at hk
  cases dst with
  | none => exact ⟨loc, hk, r, hn, rfl⟩
  | some d =>
    have hk : (Bool.rec False (K ((d, v) :: loc)) (Nat.ble (Nat.succ d) n) : Prop) := hk
    cases hb : Nat.ble (Nat.succ d) n with
    | false => rw [hb] at hk; exact hk.elim
    | true =>
      rw [hb] at hk
      have hd : d < a.tmps.size := by rw [hn]; exact Nat.le_of_ble_eq_true hb
      refine ⟨_, hk, fun t => ?_, by simp [Act.put, hn], rfl⟩
      rw [getD_put a d v' t hd, look_cons]
      by_cases h : d = t
      · rw [if_pos h, if_pos h]; exact hv
      · rw [if_neg h, if_neg h]; exact r t
theorem opd_rel {L : LM} {loc : Lo} {env : Env} {a : Act} (r : RL L loc env a) (x : Operand) : RV L (opd loc env x) (a.eval x) := by
  cases x with
  | tmp t => exact r t
  | const v => exact rv_ofV L v
  | global g => exact .any _
  | func f => exact .fn (.func f) [] [] #[] #[] .nil .nil

/-- what a call of a function comes to -/
def CallOK (P : Program) (f : Nat) (args : List AV) (h : H) (KV : AV → H → List Bool → Prop) : Prop :=
  ∀ (L : LM) (w : World) (args' : Array Value) (U : Nat), RVs L args args'.toList → RH L h w U → (∀ v h' ds', KV v h' ds' → h'.next ≤ U) →
    Calls P f args' w fun e w' => ∃ v h' ds' L' v', e = .returned v' ∧ KV v h' ds' ∧ RV L' v v' ∧ RH L' h' w' U ∧ Step L L' h h' w w'
def CallsOK (P : Program) (call : XCall) : Prop := ∀ f args h ds KV, call f args h ds KV → enterable P f = true ∧ CallOK P f args h KV

theorem run_enter {f : Nat} (h : enterable P f = true) (args : Array Value) (w : World) : (callFunc f args).run P w = .ok (.enter f args) w := by
  unfold enterable at h
  split at h
  · rename_i fn hf
    split at h
    · rename_i b hb
      have hn : ¬ (fn.name = "runtime.NumGoroutine") := by simpa using h
      simp [callFunc, hf, hn, hb]
    · cases h
  · cases h

theorem wants_sound {all : List Oper} {ops : Array Oper} (hall : ops.toList = all) {loc : Lo} {env : Env} {g : Option (Nat × Bool)} {K : Bool → Prop} (hk : wants all loc env g K)
    {L : LM} {a : Act} (r : RL L loc env a) {o : Oper} (ho : o.guard = g) : ∃ b, K b ∧ Region.wanted o (yielded ops a.tmps) = b := by
  unfold wants at hk
  unfold Region.wanted
  rw [ho]
  split at hk
  · exact ⟨true, hk, rfl⟩
  · rename_i j want
    split at hk <;> try exact hk.elim
    rename_i oj hj
    rw [lget_eq, ← hall] at hj
    have hj : ops[j]? = some oj := by simpa using hj
    split at hk <;> try exact hk.elim
    rename_i d hd
    have hr := r d
    have hy : ∀ v, a.tmps.getD d undef = v → yielded ops a.tmps j = (match v with | .bool b => some b | _ => none) ∨ (a.tmps[d]? = none) := by
      intro v hv
      cases ht : a.tmps[d]? with
      | none => exact .inr rfl
      | some u =>
        left
        have : a.tmps.getD d undef = u := by simp [Array.getD_eq_getD_getElem?, ht]
        rw [this] at hv; subst hv
        simp [yielded, hj, hd, ht]
        cases u <;> rfl
    split at hk <;> try exact hk.elim
    · rename_i b hb
      rw [hb] at hr
      refine ⟨_, hk, ?_⟩
      generalize hg : a.tmps.getD d undef = v at hr
      cases hr
      rcases hy _ hg with e | e
      · show (yielded ops a.tmps j == some want) = _
        rw [e]; cases b <;> cases want <;> rfl
      · simp [Array.getD_eq_getD_getElem?, e, undef] at hg
    · rename_i vs hb
      rw [hb] at hr
      refine ⟨_, hk, ?_⟩
      generalize hg : a.tmps.getD d undef = v at hr
      cases hr
      rcases hy _ hg with e | e
      · show (yielded ops a.tmps j == some want) = _
        rw [e]; rfl
      · simp [yielded, hj, hd, e]

theorem xact_sound {m : Bool} {call : XCall} (hc : CallsOK P call) {ρ : Operand → AV} {o : Oper} {h : H} {ds : List Bool} {K : KV} (hk : xact m P call ρ o.op h ds K)
    {L : LM} {a : Act} {w : World} {U : Nat} (hU : ∀ v h' ds', K v h' ds' → h'.next ≤ U) (hρ : ∀ x, RV L (ρ x) (a.eval x)) (r : RH L h w U) {next : Act → World → Prop} {Q : Exit → Act → World → Prop}
    (hnext : ∀ v h' ds' L' v' w', K v h' ds' → RV L' v v' → RH L' h' w' U → Step L L' h h' w w' → next (a.put o.dst v') w') : o.wp P a w next Q := by
  have plain : xop m P ρ o.op h ds K → o.wp P a w next Q := by
    intro hk
    obtain ⟨v, h', ds', L', v', w', a1, a2, a3, a4, a5⟩ := xop_sound r hU hρ o hk
    unfold Oper.wp
    rcases a2 with e | ⟨e, rfl⟩
    · rw [e]; exact hnext v h' ds' L' v' w' a1 a3 a4 a5
    · rw [e]; exact hnext v h' ds' L' undef w' a1 a3 a4 a5
  unfold xact at hk
  split at hk
  · rename_i c hop
    split at hk
    · rename_i f hf
      split at hk <;> try exact hk.elim
      rename_i g first cap hfv
      obtain ⟨hen, hcall⟩ := hc _ _ _ _ _ hk
      have hfr := hρ f
      rw [hfv] at hfr
      generalize hfe : a.eval f = fv at hfr
      cases hfr with
      | fn _ _ _ xs ys h1 h2 =>
        have hrun : (execOp a.eval o).run P w = .ok (.enter g ((xs ++ c.args.map a.eval) ++ ys)) w := by
          simp [execOp, hop, resolve, hf, hfe, Deferred.ofValue, invoke, run_enter hen]
        have hargs : RVs L (lapp first (lapp (lmap ρ c.args.toList) cap)) ((xs ++ c.args.map a.eval) ++ ys).toList := by
          rw [lapp_eq, lapp_eq, lmap_eq, ← List.append_assoc]
          simpa using (h1.append (rvs_map hρ c.args.toList)).append h2
        unfold Oper.wp
        rw [hrun]
        refine (hcall L w _ U hargs r hU).mono ?_
        rintro e w' ⟨v, h', ds', L', v', rfl, k1, k2, k3, k4⟩
        exact hnext v h' ds' L' v' w' k1 k2 k3 k4
    · rw [← hop] at hk; exact plain hk
  · exact plain hk

theorem xops_sound {m : Bool} {call : XCall} (hc : CallsOK P call) (hs : SplCall call) {n : Nat} {env : Env} {ops : Array Oper} {K : Lo → H → List Bool → Prop} {Q : Exit → Act → World → Prop} {L0 : LM} {h0 : H} {w0 : World} {D : List Deferred} {U : Nat} (hU : ∀ loc h ds, K loc h ds → h.next ≤ U)
    (hQ : ∀ loc h ds L a w, K loc h ds → RL L loc env a → a.tmps.size = n → a.defers = D → RH L h w U → Step L0 L h0 h w0 w → Q .normal a w) :
    ∀ (rest pre : List Oper) (loc : Lo) (h : H) (ds : List Bool), ops.toList = pre ++ rest → xops m P call n env ops.toList rest loc h ds K →
      ∀ (L : LM) (a : Act) (w : World), RL L loc env a → a.tmps.size = n → a.defers = D → RH L h w U → Step L0 L h0 h w0 w → wpOps P ops Q (List.range' pre.length rest.length) a w
  | [], pre, loc, h, ds, hall, hk, L, a, w, hl, hn, hd, r, s => hQ _ _ _ _ _ _ hk hl hn hd r s
  | o :: rest, pre, loc, h, ds, hall, hk, L, a, w, hl, hn, hd, r, s => by
    have hget : ops[pre.length]? = some o := by
      have : ops.toList[pre.length]? = some o := by rw [hall]; simp
      simpa using this
    have hk : wants ops.toList loc env o.guard (fun b => Bool.rec
      (putL n o.dst (.tup []) loc fun loc => xops m P call n env ops.toList rest loc h ds K)
      (xact m P call (opd loc env) o.op h ds fun v h ds => putL n o.dst v loc fun loc => xops m P call n env ops.toList rest loc h ds K) b) := hk
    obtain ⟨b, hk, hw⟩ := wants_sound rfl hk hl rfl
    have ih := xops_sound (m := m) (ops := ops) hc hs (L0 := L0) (h0 := h0) (w0 := w0) (D := D) hU hQ rest (pre ++ [o])
    have hall' : ops.toList = (pre ++ [o]) ++ rest := by rw [hall]; simp
    have hlen : (pre ++ [o]).length = pre.length + 1 := by simp
    show wpOps P ops Q (List.range' pre.length (rest.length + 1)) a w
    rw [List.range'_succ]
    simp only [wpOps, hget, hw]
    cases b with
    | false =>
      simp only [Bool.false_eq_true, if_false]
      obtain ⟨loc', k1, k2, k3, k4⟩ := putL_sound hk hn hl (v' := undef) (.tup [] #[] .nil)
      have := ih loc' h ds hall' k1 L _ w k2 k3 (k4.trans hd) r s
      rwa [hlen] at this
    | true =>
      simp only [if_true]
      left
      refine xact_sound hc hk (U := U) (fun v h' ds' hk' => ?_) (fun x => opd_rel hl x) r ?_
      · obtain ⟨loc', k1, _, _, _⟩ := putL_split hk'
        obtain ⟨loc2, h2, ds2, k2, k3, _⟩ := xops_spl hs rest loc' h' ds' K k1
        exact Nat.le_trans k3 (hU _ _ _ k2)
      intro v h' ds' L' v' w' q1 q2 q3 q4
      obtain ⟨loc', k1, k2, k3, k4⟩ := putL_sound q1 hn (hl.mono q4.ext) q2
      have := ih loc' h' ds' hall' k1 L' _ w' k2 k3 (k4.trans hd) q3 (s.trans q4)
      rwa [hlen] at this
theorem flush_rel {mask : Nat} : ∀ {loc : Lo} {env : Env}, (∀ t v, T.get env t = some v → bit mask t = true) → ∀ t v, T.get (flush mask loc env) t = some v → v = look loc env t ∧ bit mask t = true
  | [], env, hb, t, v, h => ⟨by rw [look_nil]; unfold eget; have h : T.get env t = some v := h; rw [h], hb t v h⟩
  | (d, u) :: loc, env, hb, t, v, h => by
    have h : T.get (Bool.rec (flush mask loc env) (T.set (flush mask loc env) u d) (bit mask d)) t = some v := h
    rw [look_cons]
    cases hm : bit mask d with
    | true =>
      rw [hm] at h
      rcases T.get_set h with ⟨rfl, rfl⟩ | ⟨hne, h⟩
      · exact ⟨by rw [if_pos rfl], hm⟩
      · obtain ⟨a, b⟩ := flush_rel hb t v h
        exact ⟨by rw [if_neg (Ne.symm hne)]; exact a, b⟩
    | false =>
      rw [hm] at h
      obtain ⟨a, b⟩ := flush_rel hb t v h
      exact ⟨by rw [if_neg (fun e => by rw [e, b] at hm; cases hm)]; exact a, b⟩
end
end
end Go.X

/- Regions that draw their order, I: what an operation looks at, ancestors, the table of a run. -/
import Derived.Test.YtkfhjobebhdpoaaGreatE4
import Derived.Orders
set_option linter.unusedVariables false
set_option linter.unusedSimpArgs false
set_option autoImplicit false
set_option linter.unusedVariables false
namespace Go.X
noncomputable section
section
variable {P : Program} {m : Bool} {gl : Glob}

theorem lmap_congr {α β : Type} {f g : α → β} : ∀ {l : List α}, (∀ x ∈ l, f x = g x) → lmap f l = lmap g l := fun {l} h => by
  rw [lmap_eq, lmap_eq]; exact List.map_congr_left h
/-- an operation looks at its operands alone -/
theorem xop_congr {ρ ρ' : Operand → AV} {op : Op} {h : H} {ds : List Bool} {K : KV} (e : ∀ x ∈ op.operands.toList, ρ x = ρ' x) : xop m P ρ op h ds K = xop m P ρ' op h ds K := by
  cases op <;> simp only [Op.operands, List.mem_cons, List.not_mem_nil, or_false, forall_eq_or_imp, forall_eq] at e <;> simp only [xop]
  case move => rw [e]
  case assign => rw [e]
  case pick => rw [e.1, e.2.1, e.2.2]
  case box => rw [e]
  case build t ps => rw [lmap_congr (g := fun p => (p.1, ρ' p.2)) fun p hp => by rw [e p.2 (List.mem_map.2 ⟨p, hp, rfl⟩)]]
  case buildSlice t n ps => rw [lmap_congr (g := fun p => (p.1, ρ' p.2)) fun p hp => by rw [e p.2 (List.mem_map.2 ⟨p, hp, rfl⟩)]]
  case load => rw [e]
  case store => rw [e.1, e.2]
  case nilCheck => rw [e]
  case binOp => rw [e.1, e.2]
  case unOp => rw [e]
  case convert => rw [e]
  case makeInterface => rw [e]
  case makeFunc fn f c =>
    rw [lmap_congr (l := f.toList) (g := ρ') fun x hx => e x (by simp at hx ⊢; exact .inl hx), lmap_congr (l := c.toList) (g := ρ') fun x hx => e x (by simp at hx ⊢; exact .inr hx)]
  case makeSlice => rw [e.1, e.2]
  case slice t x lo hi mx =>
    have hx : ρ x = ρ' x := e x (by simp)
    have h1 : omap ρ lo = omap ρ' lo := by cases lo with
      | none => rfl
      | some y => simp only [omap]; rw [e y (by simp)]
    have h2 : omap ρ hi = omap ρ' hi := by cases hi with
      | none => rfl
      | some y => simp only [omap]; rw [e y (by simp)]
    have h3 : omap ρ mx = omap ρ' mx := by cases mx with
      | none => rfl
      | some y => simp only [omap]; rw [e y (by simp)]
    rw [hx, h1, h2, h3]
  case fieldAddr => rw [e]
  case field => rw [e]
  case indexAddr => rw [e.1, e.2]
  case index => rw [e.1, e.2]
  case extract => rw [e]
  case makeMap t x =>
    have h1 : omap ρ x = omap ρ' x := by cases x with
      | none => rfl
      | some y => simp only [omap]; rw [e y (by simp)]
    rw [h1]
  case mapUpdate => rw [e.1, e.2.1, e.2.2]
  case insert => rw [e.1, e.2.1, e.2.2]
  case mapEntry => rw [e.1, e.2]
  case entryStore => rw [e.1, e.2.1, e.2.2]
  case typeAssert => rw [e]
  case range => rw [e]
  case next => rw [e]
  case entry => rw [e]
  case lookup => rw [e.1, e.2]
  case call c =>
    cases hc : c.callee with
    | builtin b =>
      have e' : ∀ x ∈ c.args.toList, ρ x = ρ' x := fun x hx => e x (by simp [Call.operands]; exact .inr (by simpa using hx))
      dsimp only
      unfold xblt
      cases b <;> try rfl
      case max => dsimp only; split <;> try rfl
                  rename_i y z heq; rw [heq] at e'; rw [e' y (by simp), e' z (by simp)]
      case min => dsimp only; split <;> try rfl
                  rename_i y z heq; rw [heq] at e'; rw [e' y (by simp), e' z (by simp)]
      all_goals
        dsimp only
        split <;> try rfl
        split <;> try rfl
        first
          | (rename_i x heq; rw [heq] at e'; rw [e' x (by simp)]; done)
          | (rename_i y z heq; rw [heq] at e'; rw [e' y (by simp), e' z (by simp)])
    | _ => rfl
theorem xact_congr {call : XCall} {ρ ρ' : Operand → AV} {op : Op} {h : H} {ds : List Bool} {K : KV} (e : ∀ x ∈ op.operands.toList, ρ x = ρ' x) : xact m P call ρ op h ds K = xact m P call ρ' op h ds K := by
  unfold xact
  split
  · rename_i c
    split
    · rename_i f hf
      have e1 : ρ f = ρ' f := e f (by simp [Op.operands, Call.operands, hf])
      have e2 : lmap ρ c.args.toList = lmap ρ' c.args.toList := lmap_congr fun x hx => e x (by simp [Op.operands, Call.operands]; exact .inr (by simpa using hx))
      rw [e1]
      split
      · rename_i g first cap heq
        rw [e2]
      · rw [e2]
      · rfl
    · rename_i r name hf
      have e1 : ρ r = ρ' r := e r (by simp [Op.operands, Call.operands, hf])
      have e2 : lmap ρ c.args.toList = lmap ρ' c.args.toList := lmap_congr fun x hx => e x (by simp [Op.operands, Call.operands]; exact .inr (by simpa using hx))
      rw [e1, e2]
    · exact xop_congr e
  · exact xop_congr e

theorem xact_xop {call : XCall} {ρ : Operand → AV} {op : Op} (hq : isQ P op = true ∨ isL op = true ∨ isA op = true) : ∀ h ds K, xact m P call ρ op h ds K = xop m P ρ op h ds K := by
  intro h ds K
  unfold xact
  split
  · rename_i c
    split
    · rename_i f hf
      rcases hq with hq | hq | hq
      · simp [isQ, hf] at hq
      · cases hq
      · cases hq
    · rename_i r name hf
      rcases hq with hq | hq | hq
      · simp [isQ, hf] at hq
      · cases hq
      · cases hq
    · rfl
  · rfl

theorem kindO_q {op : Op} (h : isQ P op = true) : kindO P op = 0 := by simp [kindO, h]
theorem kindO_cases (P : Program) (op : Op) : (isQ P op = true ∧ kindO P op = 0) ∨ (isQ P op = false ∧ isL op = true ∧ kindO P op = 1) ∨ (isQ P op = false ∧ isL op = false ∧ isA op = true ∧ kindO P op = 2) ∨ (isQ P op = false ∧ isL op = false ∧ isA op = false ∧ kindO P op = 3) := by
  unfold kindO
  cases h1 : isQ P op <;> cases h2 : isL op <;> cases h3 : isA op <;> simp

/-! Ancestors -/
theorem bit_testBit (m i : Nat) : bit m i = m.testBit i := by
  unfold bit
  rw [Nat.testBit_eq_decide_div_mod_eq]
  show Nat.beq (m >>> i % 2) 1 = _
  rw [Nat.shiftRight_eq_div_pow]
  cases h : Nat.beq (m / 2 ^ i % 2) 1 with
  | true => exact (decide_eq_true (natBeq_iff.1 h)).symm
  | false => exact (decide_eq_false fun e => by rw [natBeq_iff.2 e] at h; cases h).symm
theorem bit_maskP_go {acc : List Nat} {j : Nat} : ∀ {l : List Nat} {s : Nat}, bit (l.foldl (fun s e => s ||| 2 ^ e ||| (lget acc e).getD 0) s) j = true → bit s j = true ∨ ∃ e ∈ l, e = j ∨ ∃ m, lget acc e = some m ∧ bit m j = true
  | [], s, h => .inl h
  | e :: l, s, h => by
    rw [List.foldl_cons] at h
    rcases bit_maskP_go h with h | ⟨e', a, b⟩
    · rw [bit_testBit, Nat.testBit_or, Nat.testBit_or, Nat.testBit_two_pow] at h
      simp only [Bool.or_eq_true, decide_eq_true_eq] at h
      rcases h with (h | h) | h
      · exact .inl (by rw [bit_testBit]; exact h)
      · exact .inr ⟨e, by simp, .inl h⟩
      · refine .inr ⟨e, by simp, .inr ?_⟩
        cases hg : lget acc e with
        | none => rw [hg] at h; simp at h
        | some m => rw [hg] at h; exact ⟨m, rfl, by rw [bit_testBit]; exact h⟩
    · exact .inr ⟨e', by simp [a], b⟩
/-- each mask holds what stands before, by what stands before -/
theorem ancL_spec : ∀ (l : List Oper) (acc : List Nat) (pre : List Oper), acc.length = pre.length →
    (∀ i o m, pre[i]? = some o → acc[i]? = some m → ∀ j, bit m j = true → ∃ e ∈ preds o, e = j ∨ (e < i ∧ ∃ m', acc[e]? = some m' ∧ bit m' j = true)) →
    ∀ i o m, (pre ++ l)[i]? = some o → (ancL l acc)[i]? = some m → ∀ j, bit m j = true → ∃ e ∈ preds o, e = j ∨ (e < i ∧ ∃ m', (ancL l acc)[e]? = some m' ∧ bit m' j = true)
  | [], acc, pre, hl, hp, i, o, m, ho, hm, j, hj => hp i o m (by simpa using ho) hm j hj
  | x :: l, acc, pre, hl, hp, i, o, m, ho, hm, j, hj => by
    refine ancL_spec l (acc ++ [maskP acc x]) (pre ++ [x]) (by simp [hl]) ?_ i o m (by simpa using ho) hm j hj
    intro i o m ho hm j hj
    by_cases hi : i < pre.length
    · rw [List.getElem?_append_left hi] at ho
      rw [List.getElem?_append_left (by omega)] at hm
      obtain ⟨e, a, b⟩ := hp i o m ho hm j hj
      refine ⟨e, a, b.imp id fun ⟨c, m', d, f⟩ => ⟨c, m', ?_, f⟩⟩
      rw [List.getElem?_append_left (by omega)]; exact d
    · have hi2 : i = pre.length := by
        have := (List.getElem?_eq_some_iff.1 ho).1
        simp at this; omega
      subst hi2
      rw [List.getElem?_append_right (by omega)] at ho
      rw [← hl, List.getElem?_append_right (by omega)] at hm
      simp at ho hm
      subst ho hm
      rcases bit_maskP_go hj with h | ⟨e, a, b⟩
      · simp [bit_testBit] at h
      · refine ⟨e, a, b.imp id fun ⟨m', d, f⟩ => ?_⟩
        rw [lget_eq] at d
        have := (List.getElem?_eq_some_iff.1 d).1
        refine ⟨by omega, m', ?_, f⟩
        rw [List.getElem?_append_left this]; exact d
/-- what is closed under what must stand before holds the ancestors -/
theorem an_closed {ops : List Oper} {done : Nat → Prop} (hc : ∀ i o, ops[i]? = some o → done i → ∀ e ∈ preds o, done e) : ∀ (i j : Nat) (o : Oper), ops[i]? = some o → (∀ e ∈ preds o, done e) → an (ancL ops []) j i = true → done j := by
  intro i
  induction i using Nat.strongRecOn with
  | _ i ih =>
    intro j o ho hp hj
    unfold an at hj
    rw [lget_eq] at hj
    cases hm : (ancL ops [])[i]? with
    | none => rw [hm] at hj; simp [bit_testBit] at hj
    | some m =>
      rw [hm] at hj
      obtain ⟨e, a, b⟩ := ancL_spec ops [] [] rfl (by simp) i o m (by simpa using ho) hm j hj
      rcases b with rfl | ⟨hlt, m', hm', hb⟩
      · exact hp _ a
      · have hde := hp e a
        have he : e < ops.length := by have := (List.getElem?_eq_some_iff.1 ho).1; omega
        refine ih e hlt j _ (List.getElem?_eq_getElem he) (hc e _ (List.getElem?_eq_getElem he) hde) ?_
        unfold an
        rw [lget_eq, hm']; exact hb

/-! The table of a run -/
structure St where
  loc : Lo
  h : H
  ds : List Bool
  rl : RLs
structure Ent where
  i : Nat
  o : Oper
  s : St
  b : Bool
  v : AV
  t : St
structure EntOK (m : Bool) (P : Program) (gl : Glob) (call : XCall) (n : Nat) (env : Env) (all : List Oper) (anc : List Nat) (e : Ent) : Prop where
  wants : ∀ K' : Bool → Prop, K' e.b → wants all e.s.loc env e.o.guard K'
  dst : ∀ d, e.o.dst = some d → d < n
  loc : e.t.loc = putD e.o.dst e.v e.s.loc
  off : e.b = false → e.v = .tup [] ∧ e.t.h = e.s.h ∧ e.t.rl = e.s.rl
  act : e.b = true → ∀ K' : KV, K' e.v e.t.h e.t.ds → xact m P call (opd gl e.s.loc env) e.o.op e.s.h e.s.ds K'
  next : e.s.h.next ≤ e.t.h.next
  q : e.b = true → kindO P e.o.op = 0 → e.t.h = e.s.h ∧ ∀ h (K' : KV), K' e.v h e.t.ds → xop m P (opd gl e.s.loc env) e.o.op h e.s.ds K'
  l : e.b = true → kindO P e.o.op = 1 → e.t.h = e.s.h ∧ ∃ l, lkOf (opd gl e.s.loc env) e.o.op = some l ∧ (e.i, l, e.v) ∈ e.t.rl ∧ ∀ K' : KV, K' e.v e.s.h e.t.ds → xlk m P l e.s.h e.s.ds K'
  a : e.b = true → kindO P e.o.op = 2 → ∃ k mv, Names mv ∧ e.v = mv e.s.h.next ∧ e.t.h = hnew e.s.h k ∧ ∀ h (K' : KV), K' (mv h.next) (hnew h k) e.t.ds → xop m P (opd gl e.s.loc env) e.o.op h e.s.ds K'
  rl : ∀ x ∈ e.s.rl, x ∈ e.t.rl
  agn : e.b = true → kindO P e.o.op = 3 → ∀ x ∈ e.s.rl, an anc x.1 e.i = false → ∃ ds', ∀ K' : KV, K' x.2.2 e.t.h ds' → xlk m P x.2.1 e.t.h e.t.ds K'
def Link (es : List Ent) (s t : St) : Prop := match es with
  | [] => s = t
  | e :: es => e.s = s ∧ Link es e.t t

theorem bandT {a b : Bool} (h : Bool.and a b = true) : a = true ∧ b = true := by cases a <;> cases b <;> first | exact ⟨rfl, rfl⟩ | cases h
theorem recT {x y : Bool} (h : (Bool.rec (Bool.not y) y x : Bool) = true) : x = y := by cases x <;> cases y <;> first | rfl | cases h
theorem flatEq_eq {a b : AV} (h : flatEq a b = true) : a = b := by
  unfold flatEq at h
  split at h <;> try exact Bool.noConfusion h
  all_goals split at h <;> try exact Bool.noConfusion h
  · rename_i x _ _ y; rw [recT h]
  · rename_i k n _ k' n'
    obtain ⟨h1, h2⟩ := bandT h
    rw [eqI_eq] at h2
    rw [kind_num h1, of_decide_eq_true (p := n = n') (by simpa using h2)]
  · obtain ⟨h1, h2⟩ := bandT h
    rw [natBeq_iff.1 h1, natBeq_iff.1 h2]
  · rfl
  · obtain ⟨h1, h2⟩ := bandT h
    rw [natBeq_iff.1 h1, natBeq_iff.1 h2]
  · rfl
  · rename_i i o l c e s _ i' o' l' c' e' s'
    obtain ⟨h1, h⟩ := bandT h
    obtain ⟨h2, h⟩ := bandT h
    obtain ⟨h3, h⟩ := bandT h
    obtain ⟨h4, h⟩ := bandT h
    obtain ⟨h5, h6⟩ := bandT h
    rw [natBeq_iff.1 h1, natBeq_iff.1 h2, natBeq_iff.1 h3, natBeq_iff.1 h4, natBeq_iff.1 h6, recT h5]
  · rfl
  · rw [natBeq_iff.1 h]
  · rfl
  · rfl
  · rw [natBeq_iff.1 h]
theorem flatEqs_eq : ∀ {as bs : List AV}, flatEqs as bs = true → as = bs
  | [], [], _ => rfl
  | [], b :: bs, h => Bool.noConfusion h
  | a :: as, [], h => Bool.noConfusion h
  | a :: as, b :: bs, h => by
    have h : Bool.and (flatEq a b) (flatEqs as bs) = true := h
    obtain ⟨h1, h2⟩ := bandT h
    rw [flatEq_eq h1, flatEqs_eq h2]
theorem avEq_eq {a b : AV} (h : avEq a b = true) : a = b := by
  unfold avEq at h
  split at h
  · split at h <;> try exact Bool.noConfusion h
    rw [flatEqs_eq h]
  · split at h <;> try exact Bool.noConfusion h
    obtain ⟨h1, h⟩ := bandT h
    obtain ⟨h2, h3⟩ := bandT h
    rw [natBeq_iff.1 h1, flatEqs_eq h2, flatEqs_eq h3]
  · exact flatEq_eq h
theorem avEqC_eq {a b : AV} (h : avEqC a b = true) : a = b := by
  unfold avEqC at h
  split at h
  · cases h
  · cases h
  · cases h
  · exact avEq_eq h
theorem sameV_eq {u v : AV} {K : Prop} (h : sameV m u v K) : u = v := by
  cases m with
  | true =>
    have h : (Bool.rec (u = v ∧ K) K (avEqC u v) : Prop) := h
    cases hb : avEqC u v with
    | true => exact avEqC_eq hb
    | false => rw [hb] at h; exact h.1
  | false =>
    have h : (Bool.rec False K (avEq u v) : Prop) := h
    cases hb : avEq u v with
    | true => exact avEq_eq hb
    | false => rw [hb] at h; exact h.elim
theorem again_spec {anc : List Nat} {i : Nat} {h : H} {ds : List Bool} : ∀ {rl : RLs} {K : Prop}, again m P anc i h ds rl K →
    K ∧ ∀ x ∈ rl, an anc x.1 i = false → ∃ ds', ∀ K' : KV, K' x.2.2 h ds' → xlk m P x.2.1 h ds K'
  | [], K, hk => ⟨hk, by simp⟩
  | y :: rl, K, hk => by
    have hk : (Bool.rec (xlk m P y.2.1 h ds fun u _ _ => sameV m u y.2.2 (again m P anc i h ds rl K)) (again m P anc i h ds rl K) (an anc y.1 i) : Prop) := hk
    cases hb : an anc y.1 i with
    | true =>
      rw [hb] at hk
      obtain ⟨a, b⟩ := again_spec hk
      refine ⟨a, fun x hx ha => ?_⟩
      rcases List.mem_cons.1 hx with rfl | hx
      · rw [hb] at ha; cases ha
      · exact b x hx ha
    | false =>
      rw [hb] at hk
      obtain ⟨u, ds', e1, e2⟩ := l_lk _ _ hk
      have := sameV_eq e1
      obtain ⟨a, b⟩ := again_spec (sameV_split e1).1
      refine ⟨a, fun x hx ha => ?_⟩
      rcases List.mem_cons.1 hx with rfl | hx
      · exact ⟨ds', fun K' hk' => e2 K' (this ▸ hk')⟩
      · exact b x hx ha
theorem mem_noteL {op : Op} {i : Nat} {ρ : Operand → AV} {v : AV} {rl : RLs} {x : Nat × LK × AV} (h : x ∈ rl) : x ∈ noteL op i ρ v rl := by
  unfold noteL; split
  · exact List.mem_cons_of_mem _ h
  · exact h
theorem xdr_tab {call : XCall} (hs : SplCall call) {n : Nat} {env : Env} {all : List Oper} {anc : List Nat} : ∀ (its : List (Nat × Oper)) (s : St) (K : Lo → H → List Bool → Prop),
    xdr m P gl call n env all anc its s.loc s.h s.ds s.rl K →
    ∃ es t, es.map (fun e => (e.i, e.o)) = its ∧ Link es s t ∧ (∀ e ∈ es, EntOK m P gl call n env all anc e) ∧ K t.loc t.h t.ds
  | [], s, K, hk => ⟨[], s, rfl, rfl, by simp, hk⟩
  | x :: rest, s, K, hk => by
    have hk : wants all s.loc env x.2.guard (fun b => Bool.rec
      (putL n x.2.dst (.tup []) s.loc fun loc => xdr m P gl call n env all anc rest loc s.h s.ds s.rl K)
      (xact m P call (opd gl s.loc env) x.2.op s.h s.ds fun v h ds => putL n x.2.dst v s.loc fun loc' =>
        Bool.rec (xdr m P gl call n env all anc rest loc' h ds (noteL x.2.op x.1 (opd gl s.loc env) v s.rl) K) (again m P anc x.1 h ds s.rl (xdr m P gl call n env all anc rest loc' h ds s.rl K)) (Nat.beq (kindO P x.2.op) 3)) b) := hk
    obtain ⟨b, hk, back⟩ := wants_split hk
    cases b with
    | false =>
      obtain ⟨loc', hk, _, hloc, hdst⟩ := putL_split hk
      obtain ⟨es, t, i1, i2, i3, i4⟩ := xdr_tab hs rest ⟨loc', s.h, s.ds, s.rl⟩ K hk
      refine ⟨⟨x.1, x.2, s, false, .tup [], ⟨loc', s.h, s.ds, s.rl⟩⟩ :: es, t, by simp [i1], ⟨rfl, i2⟩, ?_, i4⟩
      intro e he
      rcases List.mem_cons.1 he with rfl | he
      · exact ⟨back, hdst, hloc, fun _ => ⟨rfl, rfl, rfl⟩, nofun, Nat.le_refl _, nofun, nofun, nofun, fun _ h => h, nofun⟩
      · exact i3 e he
    | true =>
      dsimp only at hk
      have fin : ∀ (v : AV) (h' : H) (ds' : List Bool), (putL n x.2.dst v s.loc fun loc' =>
          Bool.rec (xdr m P gl call n env all anc rest loc' h' ds' (noteL x.2.op x.1 (opd gl s.loc env) v s.rl) K) (again m P anc x.1 h' ds' s.rl (xdr m P gl call n env all anc rest loc' h' ds' s.rl K)) (Nat.beq (kindO P x.2.op) 3)) →
          (∀ loc' rl', (kindO P x.2.op ≠ 3 → rl' = noteL x.2.op x.1 (opd gl s.loc env) v s.rl) → (kindO P x.2.op = 3 → rl' = s.rl ∧ ∀ y ∈ s.rl, an anc y.1 x.1 = false → ∃ ds2, ∀ K' : KV, K' y.2.2 h' ds2 → xlk m P y.2.1 h' ds' K') →
            (∀ d, x.2.dst = some d → d < n) → loc' = putD x.2.dst v s.loc → (∀ y ∈ s.rl, y ∈ rl') →
            EntOK m P gl call n env all anc ⟨x.1, x.2, s, true, v, ⟨loc', h', ds', rl'⟩⟩) →
          ∃ es t, es.map (fun e => (e.i, e.o)) = x :: rest ∧ Link es s t ∧ (∀ e ∈ es, EntOK m P gl call n env all anc e) ∧ K t.loc t.h t.ds := by
        intro v h' ds' hk ok
        obtain ⟨loc', hk, _, hloc, hdst⟩ := putL_split hk
        by_cases h3 : kindO P x.2.op = 3
        · rw [natBeq_iff.2 h3] at hk
          obtain ⟨hk, hag⟩ := again_spec hk
          obtain ⟨es, t, i1, i2, i3, i4⟩ := xdr_tab hs rest ⟨loc', h', ds', s.rl⟩ K hk
          refine ⟨⟨x.1, x.2, s, true, v, ⟨loc', h', ds', s.rl⟩⟩ :: es, t, by simp [i1], ⟨rfl, i2⟩, ?_, i4⟩
          intro e he
          rcases List.mem_cons.1 he with rfl | he
          · exact ok _ _ (fun h => absurd h3 h) (fun _ => ⟨rfl, hag⟩) hdst hloc fun _ h => h
          · exact i3 e he
        · have hb : Nat.beq (kindO P x.2.op) 3 = false := by
            cases hb : Nat.beq (kindO P x.2.op) 3 with
            | false => rfl
            | true => exact absurd (natBeq_iff.1 hb) h3
          rw [hb] at hk
          obtain ⟨es, t, i1, i2, i3, i4⟩ := xdr_tab hs rest ⟨loc', h', ds', noteL x.2.op x.1 (opd gl s.loc env) v s.rl⟩ K hk
          refine ⟨⟨x.1, x.2, s, true, v, ⟨loc', h', ds', noteL x.2.op x.1 (opd gl s.loc env) v s.rl⟩⟩ :: es, t, by simp [i1], ⟨rfl, i2⟩, ?_, i4⟩
          intro e he
          rcases List.mem_cons.1 he with rfl | he
          · exact ok _ _ (fun _ => rfl) (fun h => absurd h h3) hdst hloc fun _ h => mem_noteL h
          · exact i3 e he
      rcases kindO_cases P x.2.op with ⟨hq, hn⟩ | ⟨_, hq, hn⟩ | ⟨_, _, hq, hn⟩ | ⟨_, _, _, hn⟩
      · rw [xact_xop (.inl hq)] at hk
        obtain ⟨v, ds', hk, all'⟩ := xop_q hq _ _ _ hk
        exact fin v _ ds' hk fun loc' rl' r1 r2 d1 d2 d3 => ⟨back, d1, d2, nofun, fun _ K' hk' => by rw [xact_xop (.inl hq)]; exact all' _ K' hk', Nat.le_refl _,
          fun _ _ => ⟨rfl, all'⟩, fun _ h => (by rw [hn] at h; cases h), fun _ h => (by rw [hn] at h; cases h), d3, fun _ h => (by rw [hn] at h; cases h)⟩
      · rw [xact_xop (.inr (.inl hq))] at hk
        obtain ⟨l, ho⟩ := lk_some hq (opd gl s.loc env)
        rw [xop_lk ho] at hk
        obtain ⟨v, ds', hk, all'⟩ := l_lk _ _ hk
        exact fin v _ ds' hk fun loc' rl' r1 r2 d1 d2 d3 => ⟨back, d1, d2, nofun, fun _ K' hk' => by dsimp only; rw [xact_xop (.inr (.inl hq)), xop_lk ho]; exact all' K' hk', Nat.le_refl _,
          fun _ h => (by rw [hn] at h; cases h), fun _ _ => ⟨rfl, l, ho, by dsimp only; rw [r1 (by rw [hn]; decide)]; unfold noteL; rw [ho]; exact List.mem_cons_self, all'⟩, fun _ h => (by rw [hn] at h; cases h), d3, fun _ h => (by rw [hn] at h; cases h)⟩
      · rw [xact_xop (.inr (.inr hq))] at hk
        obtain ⟨k, mv, ds', nm, hk, all'⟩ := xop_a hq _ _ _ hk
        exact fin _ _ ds' hk fun loc' rl' r1 r2 d1 d2 d3 => ⟨back, d1, d2, nofun, fun _ K' hk' => by rw [xact_xop (.inr (.inr hq))]; exact all' _ K' hk', Nat.le_succ _,
          fun _ h => (by rw [hn] at h; cases h), fun _ h => (by rw [hn] at h; cases h), fun _ _ => ⟨k, mv, nm, rfl, rfl, all'⟩, d3, fun _ h => (by rw [hn] at h; cases h)⟩
      · obtain ⟨v, h', ds', hk, le, all'⟩ := xact_spl hs _ _ _ _ _ hk
        exact fin _ _ ds' hk fun loc' rl' r1 r2 d1 d2 d3 => ⟨back, d1, d2, nofun, fun _ K' hk' => all' K' hk', le,
          fun _ h => (by rw [hn] at h; cases h), fun _ h => (by rw [hn] at h; cases h), fun _ h => (by rw [hn] at h; cases h), d3, fun _ _ => (r2 hn).2⟩
end
end
end Go.X
/- Regions that draw their order, II: what holds while a region runs in any order. -/
set_option autoImplicit false
set_option linter.unusedVariables false
namespace Go.X
noncomputable section
section
variable {P : Program} {m : Bool} {gl : Glob}

/-! The order of the table -/
def Before (es : List Ent) (x e : Ent) : Prop := ∃ pre post, es = pre ++ e :: post ∧ x ∈ pre
theorem Before.cons {es : List Ent} {x y : Ent} (z : Ent) (h : Before es x y) : Before (z :: es) x y := by
  obtain ⟨a, b, e, h⟩ := h
  exact ⟨z :: a, b, by rw [e]; rfl, List.mem_cons_of_mem _ h⟩
theorem Before.head {es : List Ent} {x y : Ent} (h : y ∈ es) : Before (x :: es) x y := by
  obtain ⟨a, b, e⟩ := List.append_of_mem h
  exact ⟨x :: a, b, by rw [e]; rfl, List.mem_cons_self⟩
theorem trich {x y : Ent} {es : List Ent} : x ∈ es → y ∈ es → x = y ∨ Before es x y ∨ Before es y x := by
  induction es with
  | nil => intro h; cases h
  | cons z es ih =>
    intro hx hy
    cases hx with
    | head => cases hy with
      | head => exact .inl rfl
      | tail _ hy => exact .inr (.inl (.head hy))
    | tail _ hx => cases hy with
      | head => exact .inr (.inr (.head hx))
      | tail _ hy => exact (ih hx hy).imp id fun h => h.imp (.cons z) (.cons z)
theorem before_app {es xs ys : List Ent} (h : es = xs ++ ys) {x y : Ent} (hx : x ∈ xs) (hy : y ∈ ys) : Before es x y := by
  obtain ⟨a, b, e⟩ := List.append_of_mem hy
  exact ⟨xs ++ a, b, by rw [h, e, List.append_assoc], by simp [hx]⟩
theorem Before.mem {es : List Ent} {x y : Ent} (h : Before es x y) : x ∈ es ∧ y ∈ es := by
  obtain ⟨a, b, e, h⟩ := h
  rw [e]; exact ⟨by simp [h], by simp⟩
theorem link_app : ∀ {xs ys : List Ent} {s t : St}, Link (xs ++ ys) s t ↔ ∃ u, Link xs s u ∧ Link ys u t
  | [], ys, s, t => ⟨fun h => ⟨s, rfl, h⟩, fun ⟨u, a, b⟩ => by cases a; exact b⟩
  | x :: xs, ys, s, t => ⟨fun ⟨a, b⟩ => let ⟨u, c, d⟩ := link_app.1 b; ⟨u, ⟨a, c⟩, d⟩, fun ⟨u, ⟨a, c⟩, d⟩ => ⟨a, link_app.2 ⟨u, c, d⟩⟩⟩
section
variable {call : XCall} {n : Nat} {env : Env} {all : List Oper} {anc : List Nat}
theorem link_next : ∀ {es : List Ent} {s t : St}, Link es s t → (∀ e ∈ es, EntOK m P gl call n env all anc e) → s.h.next ≤ t.h.next ∧ ∀ e ∈ es, s.h.next ≤ e.s.h.next ∧ e.t.h.next ≤ t.h.next
  | [], s, t, h, ok => by cases h; exact ⟨Nat.le_refl _, by simp⟩
  | e :: es, s, t, h, ok => by
    obtain ⟨rfl, h⟩ := h
    obtain ⟨a, b⟩ := link_next h fun e he => ok e (List.mem_cons_of_mem _ he)
    have := (ok e List.mem_cons_self).next
    refine ⟨by omega, fun x hx => ?_⟩
    rcases List.mem_cons.1 hx with rfl | hx
    · exact ⟨Nat.le_refl _, a⟩
    · obtain ⟨c, d⟩ := b x hx
      exact ⟨by omega, d⟩
theorem before_next {es : List Ent} {s t : St} (h : Link es s t) (ok : ∀ e ∈ es, EntOK m P gl call n env all anc e) {x y : Ent} (hb : Before es x y) : x.t.h.next ≤ y.s.h.next := by
  obtain ⟨a, b, rfl, hx⟩ := hb
  obtain ⟨u, h1, h2⟩ := link_app.1 h
  obtain ⟨e2, h2⟩ := h2
  rw [e2]
  exact ((link_next h1 fun e he => ok e (by simp [he])).2 x hx).2
theorem look_putD (dst : Option Nat) (v : AV) (loc : Lo) (x : Nat) : look (putD dst v loc) env x = if dst = some x then v else look loc env x := by
  cases dst with
  | none => simp [putD]
  | some d => rw [putD, look_cons]; simp
theorem link_look {x : Nat} : ∀ {es : List Ent} {s t : St}, Link es s t → (∀ e ∈ es, EntOK m P gl call n env all anc e) →
    (∃ e ∈ es, e.o.dst = some x ∧ look t.loc env x = e.v) ∨ ((∀ e ∈ es, e.o.dst ≠ some x) ∧ look t.loc env x = look s.loc env x)
  | [], s, t, h, ok => by cases h; exact .inr ⟨by simp, rfl⟩
  | e :: es, s, t, h, ok => by
    obtain ⟨rfl, h⟩ := h
    rcases link_look (x := x) h fun e he => ok e (List.mem_cons_of_mem _ he) with ⟨y, a, b, c⟩ | ⟨a, b⟩
    · exact .inl ⟨y, by simp [a], b, c⟩
    · rw [(ok e List.mem_cons_self).loc, look_putD] at b
      by_cases hd : e.o.dst = some x
      · rw [if_pos hd] at b; exact .inl ⟨e, by simp, hd, b⟩
      · rw [if_neg hd] at b
        refine .inr ⟨fun y hy => ?_, b⟩
        rcases List.mem_cons.1 hy with rfl | hy
        · exact hd
        · exact a y hy
theorem link_rl {z : Nat × LK × AV} : ∀ {es : List Ent} {s t : St}, Link es s t → (∀ e ∈ es, EntOK m P gl call n env all anc e) → (z ∈ s.rl ∨ ∃ e ∈ es, z ∈ e.t.rl) → z ∈ t.rl
  | [], s, t, h, ok, hz => by
    cases h
    rcases hz with h | ⟨e, h, _⟩
    · exact h
    · cases h
  | e :: es, s, t, h, ok, hz => by
    obtain ⟨rfl, h⟩ := h
    refine link_rl h (fun e he => ok e (List.mem_cons_of_mem _ he)) ?_
    rcases hz with hz | ⟨x, hx, hz⟩
    · exact .inl ((ok e List.mem_cons_self).rl z hz)
    · rcases List.mem_cons.1 hx with rfl | hx
      · exact .inl hz
      · exact .inr ⟨x, hx, hz⟩
end

/-! Blocks that were made ahead of their time -/
def Pend (L : LM) (B0 : Nat) (w : World) (id : Nat) (k : Blk) : Prop := ∃ p, L id = some p ∧ RB L k w p ∧ B0 ≤ p.B ∧ ∀ j q, L j = some q → q.B = p.B → j = id
structure Mid (L0 : LM) (h0 : H) (w0 : World) (N : Nat) (L : LM) (h : H) (w : World) : Prop where
  rh : RH L h w 0
  ext : Ext L0 L
  size : w0.heap.size ≤ w.heap.size
  keep : ∀ B, B < w0.heap.size → ¬ Own L0 h0 B → w.heap[B]? = w0.heap[B]?
  own : ∀ B, Own L h B → B < w0.heap.size → Own L0 h0 B
  new : ∀ i p, L i = some p → L0 i = some p ∨ (h0.next ≤ i ∧ i < N ∧ (w0.heap.size ≤ p.B ∨ Own L0 h0 p.B))
  next : h0.next ≤ h.next
  os : w.os = w0.os
  output : w.output = w0.output
  tape : w.tape = w0.tape
  fro : ∀ a, a.block < w0.heap.size → w.frozen? a = w0.frozen? a
section
variable {L0 L L' : LM} {h0 h h' : H} {w0 w w' : World} {N : Nat}
theorem rh_zero {U : Nat} (r : RH L h w U) : RH L h w 0 := ⟨r.mem, r.sep, fun _ _ h => by omega, r.below, r.live⟩
theorem rh_fresh {U V : Nat} (r : RH L h w U) (hf : ∀ i, h.next ≤ i → i < V → L i = none) : RH L h w V := ⟨r.mem, r.sep, hf, r.below, r.live⟩
theorem Mid.start {U : Nat} (r : RH L h w U) : Mid L h w N L h w :=
  ⟨rh_zero r, Ext.refl L, Nat.le_refl _, fun _ _ _ => rfl, fun _ h _ => h, fun _ _ h => .inl h, Nat.le_refl _, rfl, rfl, rfl, fun _ _ => rfl⟩
theorem Mid.addA (M : Mid L0 h0 w0 N L h w) {k : Blk} (hp : L h.next = none ∨ Pend L w0.heap.size w h.next k) : Mid L0 h0 w0 N L (hnew h k) w where
  ext := M.ext
  size := M.size
  keep := M.keep
  new := M.new
  next := Nat.le_succ_of_le M.next
  os := M.os
  output := M.output
  tape := M.tape
  fro := M.fro
  own := by
    rintro B ⟨i, ki, p, hi, hw, hL, rfl⟩ hB
    rcases T.get_set hi with ⟨rfl, rfl⟩ | ⟨hne, hi⟩
    · rcases hp with hp | ⟨q, a, _, b, _⟩
      · rw [hp] at hL; cases hL
      · rw [a] at hL; cases hL; omega
    · exact M.own _ ⟨i, ki, p, hi, hw, hL, rfl⟩ hB
  rh := {
    mem := by
      intro i ki p hi hL
      rcases T.get_set hi with ⟨rfl, rfl⟩ | ⟨hne, hi⟩
      · rcases hp with hp | ⟨q, a, b, _⟩
        · rw [hp] at hL; cases hL
        · rw [a] at hL; cases hL; exact b
      · exact M.rh.mem i ki p hi hL
    sep := by
      intro i j ki kj p q hi hj hLi hLj hij hw hB
      rcases T.get_set hi with ⟨rfl, rfl⟩ | ⟨hne, hi⟩
      · rcases hp with hp | ⟨q', a, _, _, u⟩
        · rw [hp] at hLi; cases hLi
        · rw [a] at hLi; cases hLi
          exact absurd (u j q hLj hB.symm).symm hij
      · rcases T.get_set hj with ⟨rfl, rfl⟩ | ⟨hne', hj⟩
        · rcases hp with hp | ⟨q', a, _, _, u⟩
          · rw [hp] at hLj; cases hLj
          · rw [a] at hLj; cases hLj
            exact absurd (u i p hLi hB) hij
        · exact M.rh.sep i j ki kj p q hi hj hLi hLj hij hw hB
    fresh := fun _ _ h => by omega
    below := M.rh.below
    live := by
      intro i ki hi
      rcases T.get_set hi with ⟨rfl, _⟩ | ⟨_, hi⟩
      · exact Nat.lt_succ_self _
      · exact Nat.lt_succ_of_lt (M.rh.live _ _ hi) }
theorem Mid.step (M : Mid L0 h0 w0 N L h w) {U : Nat} (s : Step L L' h h' w w') (r : RH L' h' w' U) (hN : h'.next ≤ N) : Mid L0 h0 w0 N L' h' w' where
  rh := rh_zero r
  ext := M.ext.trans s.ext
  size := Nat.le_trans M.size s.size
  keep := fun B hB ho => (s.keep B (Nat.lt_of_lt_of_le hB M.size) fun h => ho (M.own B h hB)).trans (M.keep B hB ho)
  own := fun B h hB => M.own B (s.own B h (Nat.lt_of_lt_of_le hB M.size)) hB
  new := fun i p hp => by
    have n1 := M.next
    have n3 := M.size
    rcases s.new i p hp with h1 | ⟨h1, h2, h3⟩
    · exact M.new i p h1
    · refine .inr ⟨by omega, by omega, ?_⟩
      rcases h3 with h3 | h3
      · exact .inl (by omega)
      · rcases Nat.lt_or_ge p.B w0.heap.size with h7 | h7
        · exact .inr (M.own _ h3 h7)
        · exact .inl h7
  next := Nat.le_trans M.next s.next
  os := s.os.trans M.os
  output := s.output.trans M.output
  tape := s.tape.trans M.tape
  fro := fun a ha => (s.fro a (Nat.lt_of_lt_of_le ha M.size)).trans (M.fro a ha)
theorem Pend.step {B0 id : Nat} {k : Blk} (p : Pend L B0 w id k) {U : Nat} (r : RH L h w U) (s : Step L L' h h' w w') (hid : h.b.get id = none) : Pend L' B0 w' id k := by
  obtain ⟨p, a, b, c, u⟩ := p
  have hlt := r.below _ _ a
  have hno : ¬ Own L h p.B := by
    rintro ⟨i, ki, q, hi, _, hq, e⟩
    have := u i q hq e
    subst this; rw [hid] at hi; cases hi
  refine ⟨p, s.ext _ _ a, (b.keep (s.keep _ hlt hno)).mono s.ext, c, fun j q hj e => ?_⟩
  rcases s.new j q hj with h1 | ⟨_, _, h2⟩
  · exact u j q h1 e
  · rcases h2 with h2 | h2
    · omega
    · rw [e] at h2; exact absurd h2 hno
/-- what is made aside -/
structure Side (N : Nat) (L L' : LM) (h : H) (w w' : World) : Prop where
  ext : Ext L L'
  below : ∀ i p, L' i = some p → p.B < w'.heap.size
  size : w.heap.size ≤ w'.heap.size
  keep : ∀ B, B < w.heap.size → w'.heap[B]? = w.heap[B]?
  new : ∀ i p, L' i = some p → L i = some p ∨ (h.next ≤ i ∧ i < N ∧ w.heap.size ≤ p.B)
  os : w'.os = w.os
  output : w'.output = w.output
  tape : w'.tape = w.tape
  fro : ∀ a, a.block < w.heap.size → w'.frozen? a = w.frozen? a
theorem Side.refl {U : Nat} (r : RH L h w U) : Side N L L h w w := ⟨Ext.refl L, r.below, Nat.le_refl _, fun _ _ => rfl, fun _ _ h => .inl h, rfl, rfl, rfl, fun _ _ => rfl⟩
theorem Side.back (s : Side N L L' h w w') {i : Nat} {p : Loc} (hi : i < h.next) (hp : L' i = some p) : L i = some p := by
  rcases s.new i p hp with h | ⟨h, _⟩
  · exact h
  · omega
theorem Mid.side (M : Mid L0 h0 w0 N L h w) (s : Side N L L' h w w') : Mid L0 h0 w0 N L' h w' where
  rh := {
    mem := fun i k p hi hp => by
      have hp' := s.back (M.rh.live i k hi) hp
      exact ((M.rh.mem i k p hi hp').keep (s.keep _ (M.rh.below _ _ hp'))).mono s.ext
    sep := fun i j ki kj p q hi hj hp hq => M.rh.sep i j ki kj p q hi hj (s.back (M.rh.live i ki hi) hp) (s.back (M.rh.live j kj hj) hq)
    fresh := fun _ _ h => by omega
    below := s.below
    live := M.rh.live }
  ext := M.ext.trans s.ext
  size := Nat.le_trans M.size s.size
  keep := fun B hB ho => (s.keep B (Nat.lt_of_lt_of_le hB M.size)).trans (M.keep B hB ho)
  own := by
    rintro B ⟨i, k, p, hi, hw, hp, e⟩ hB
    exact M.own B ⟨i, k, p, hi, hw, s.back (M.rh.live i k hi) hp, e⟩ hB
  new := fun i p hp => by
    have n1 := M.next
    have n3 := M.size
    rcases s.new i p hp with h1 | ⟨h1, h2, h3⟩
    · exact M.new i p h1
    · exact .inr ⟨by omega, h2, .inl (by omega)⟩
  next := M.next
  os := s.os.trans M.os
  output := s.output.trans M.output
  tape := s.tape.trans M.tape
  fro := fun a ha => (s.fro a (Nat.lt_of_lt_of_le ha M.size)).trans (M.fro a ha)
theorem Pend.side {B0 id : Nat} {k : Blk} (p : Pend L B0 w id k) {U : Nat} (r : RH L h w U) (s : Side N L L' h w w') : Pend L' B0 w' id k := by
  obtain ⟨p, a, b, c, u⟩ := p
  have hlt := r.below _ _ a
  refine ⟨p, s.ext _ _ a, (b.keep (s.keep _ hlt)).mono s.ext, c, fun j q hj e => ?_⟩
  rcases s.new j q hj with h1 | ⟨_, _, h2⟩
  · exact u j q h1 e
  · omega
theorem leaf_none {α : Type} {i : Nat} {k : α} (h : (T.leaf : T α).get i = some k) : False := by rw [T.get_leaf] at h; cases h
/-- the empty heap's steps are aside -/
theorem side_of {id : Nat} {h1 : H} {U : Nat} (s : Step L L' ⟨T.leaf, id⟩ h1 w w') (r : RH L' h1 w' U) (hid : h.next ≤ id) (hN : h1.next ≤ N) : Side N L L' h w w' where
  ext := s.ext
  below := r.below
  size := s.size
  keep := fun B hB => s.keep B hB (by rintro ⟨i, k, p, hi, _⟩; exact leaf_none hi)
  new := fun i p hp => by
    rcases s.new i p hp with h1 | ⟨h1, h2, h3⟩
    · exact .inl h1
    · refine .inr ⟨Nat.le_trans hid h1, by omega, ?_⟩
      rcases h3 with h3 | ⟨i, k, p, hi, _⟩
      · exact h3
      · exact (leaf_none hi).elim
  os := s.os
  output := s.output
  tape := s.tape
  fro := s.fro
theorem rh_leaf {U id V : Nat} (r : RH L h w U) (hf : ∀ i, id ≤ i → i < V → L i = none) : RH L ⟨T.leaf, id⟩ w V :=
  ⟨fun i k p hi => (leaf_none hi).elim, fun i j ki kj p q hi => (leaf_none hi).elim, hf, r.below, fun i k hi => (leaf_none hi).elim⟩
theorem hnew_inj {k k' : Blk} (e : hnew h k = hnew h k') : k = k' := by
  have := congrArg (fun x => x.b.get h.next) e
  simp only [hnew] at this
  rw [T.get_set_same, T.get_set_same] at this
  exact Option.some.inj this
end
end
end
end Go.X
/- Regions that draw their order, III: whatever the order, it comes to what the executor says. -/
set_option autoImplicit false
set_option linter.unusedVariables false
set_option linter.unusedSectionVars false
namespace Go.X
noncomputable section
section
variable {P : Program} {m : Bool} {gl : Glob} {call : XCall} {n : Nat} {env : Env} {ops : Array Oper} {es : List Ent} {s0 sF : St}

/-- what stands fast of a region's table -/
structure Stat (m : Bool) (P : Program) (gl : Glob) (call : XCall) (n : Nat) (env : Env) (ops : Array Oper) (es : List Ent) (s0 sF : St) : Prop where
  link : Link es s0 sF
  loc0 : s0.loc = []
  ok : ∀ e ∈ es, EntOK m P gl call n env ops.toList (ancL ops.toList []) e
  get : ∀ e ∈ es, ops.toList[e.i]? = some e.o
  pair : ∀ x e, Before es x e → okPair P ops.toList (ancL ops.toList []) x.i e.i x.o e.o = true ∧ x.i ≠ e.i
  pre : ∀ pre e post, es = pre ++ e :: post → ∀ p ∈ preds e.o, ∃ x ∈ pre, x.i = p
  all : ∀ i, i < ops.size → ∃ e ∈ es, e.i = i

theorem ok_pair {anc : List Nat} {all : List Oper} {j i : Nat} {oj oi : Oper} (h : okPair P all anc j i oj oi = true) :
    (an anc j i = true ∨ ((∀ t, oj.dst = some t → t ∉ looks all oi) ∧ (∀ t, oi.dst = some t → t ∉ looks all oj) ∧ (kindO P oi.op = 3 → kindO P oj.op ≠ 3 ∧ kindO P oj.op ≠ 2) ∧ (kindO P oi.op = 1 → kindO P oj.op ≠ 3))) ∧
    ∀ t, oi.dst = some t → oj.dst ≠ some t := by
  unfold okPair at h
  simp only [Bool.and_eq_true, Bool.or_eq_true] at h
  obtain ⟨h1, h2⟩ := h
  constructor
  · rcases h1 with h | ⟨⟨⟨a, b⟩, c⟩, d⟩
    · exact .inl h
    · refine .inr ⟨fun t ht => ?_, fun t ht => ?_, fun hk => ?_, fun hk => ?_⟩
      · rw [ht] at a; simpa using a
      · rw [ht] at b; simpa using b
      · simp [hk] at c; exact c
      · simp [hk] at d; exact d
  · intro t ht
    rw [ht] at h2; simpa using h2

theorem hnew_get (h : H) (k : Blk) : (hnew h k).b.get h.next = some k := by simp only [hnew]; exact T.get_set_same _ _
variable (S : Stat m P gl call n env ops es s0 sF)
include S
theorem Stat.uniq {x y : Ent} (hx : x ∈ es) (hy : y ∈ es) (h : x.i = y.i) : x = y := by
  rcases trich hx hy with e | b | b
  · exact e
  · exact absurd h (S.pair _ _ b).2
  · exact absurd h.symm (S.pair _ _ b).2
theorem Stat.uniqW {x y : Ent} (hx : x ∈ es) (hy : y ∈ es) {t : Nat} (h1 : x.o.dst = some t) (h2 : y.o.dst = some t) : x = y := by
  rcases trich hx hy with e | b | b
  · exact e
  · exact absurd h1 ((ok_pair (S.pair _ _ b).1).2 t h2)
  · exact absurd h2 ((ok_pair (S.pair _ _ b).1).2 t h1)

/-- done so far: no operation ahead of those that must stand ahead of it -/
def Closed (ops : Array Oper) (done : Nat → Prop) : Prop := ∀ i o, ops.toList[i]? = some o → done i → ∀ p ∈ preds o, done p
theorem Stat.anc {done : Nat → Prop} (hc : Closed ops done) {x e : Ent} (he : e ∈ es) (hp : done e.i ∨ ∀ p ∈ preds e.o, done p) (h : an (ancL ops.toList []) x.i e.i = true) : done x.i :=
  an_closed hc e.i x.i e.o (S.get e he) (hp.elim (fun h => hc _ _ (S.get e he) h) id) h

structure Slots (es : List Ent) (done : Nat → Prop) (env : Env) (L : LM) (a : Act) : Prop where
  wr : ∀ e ∈ es, ∀ t, e.o.dst = some t → done e.i → RV L e.v (a.tmps.getD t undef)
  no : ∀ t, (∀ e ∈ es, e.o.dst = some t → ¬ done e.i) → RV L (eget env t) (a.tmps.getD t undef)
theorem Stat.put {done : Nat → Prop} {L L' : LM} {a : Act} (sl : Slots es done env L a) {e : Ent} (he : e ∈ es) (hd : ¬ done e.i) (x : Ext L L') {v' : Value} (hv : RV L' e.v v') (hn : a.tmps.size = n) :
    Slots es (fun j => done j ∨ j = e.i) env L' (a.put e.o.dst v') := by
  have get : ∀ t, (a.put e.o.dst v').tmps.getD t undef = if e.o.dst = some t then v' else a.tmps.getD t undef := by
    intro t
    cases hdst : e.o.dst with
    | none => simp [Act.put]
    | some d =>
      rw [getD_put a d v' t (by rw [hn]; exact (S.ok e he).dst d hdst)]
      by_cases h : d = t <;> simp [h]
  constructor
  · intro y hy t ht hdn
    rw [get t]
    by_cases h : e.o.dst = some t
    · rw [if_pos h, S.uniqW hy he ht h]; exact hv
    · rw [if_neg h]
      rcases hdn with hdn | hdn
      · exact (sl.wr y hy t ht hdn).mono x
      · have := S.uniq hy he hdn
        subst this
        exact absurd ht h
  · intro t hno
    rw [get t, if_neg fun h => hno e he h (.inr rfl)]
    exact (sl.no t fun y hy hyt hdn => hno y hy hyt (.inl hdn)).mono x
theorem Stat.read {done : Nat → Prop} (hc : Closed ops done) {L : LM} {a : Act} (sl : Slots es done env L a) {e : Ent} (he : e ∈ es) (hd : ¬ done e.i) (hp : ∀ p ∈ preds e.o, done p)
    {t : Nat} (ht : t ∈ looks ops.toList e.o) : RV L (look e.s.loc env t) (a.tmps.getD t undef) := by
  obtain ⟨pre, post, hs⟩ := List.append_of_mem he
  have hl := S.link
  rw [hs] at hl
  obtain ⟨u, h1, h2, h3⟩ := link_app.1 hl
  subst h2
  rcases link_look (x := t) h1 fun x hx => S.ok x (by rw [hs]; simp [hx]) with ⟨x, a1, a2, a3⟩ | ⟨a1, a2⟩
  · rw [a3]
    have hx : x ∈ es := by rw [hs]; simp [a1]
    refine sl.wr x hx t a2 ?_
    rcases (ok_pair (S.pair x e ⟨pre, post, hs, a1⟩).1).1 with h | h
    · exact S.anc hc he (.inr hp) h
    · exact absurd ht (h.1 t a2)
  · rw [a2, S.loc0, look_nil]
    refine sl.no t fun x hx hxt hdn => ?_
    rw [hs] at hx
    rcases List.mem_append.1 hx with hx | hx
    · exact a1 x hx hxt
    · rcases List.mem_cons.1 hx with rfl | hx
      · exact hd hdn
      · have hb : Before es e x := before_app (xs := pre ++ [e]) (ys := post) (by rw [hs]; simp) (by simp) hx
        rcases (ok_pair (S.pair e x hb).1).1 with h | h
        · exact hd (S.anc hc hb.mem.2 (.inl hdn) h)
        · exact absurd ht (h.2.1 t hxt)
omit S

theorem tmp_looks {o : Oper} {t : Nat} (h : .tmp t ∈ o.op.operands.toList) : t ∈ looks ops.toList o := by
  unfold looks tmpsOf
  exact List.mem_append_left _ (List.mem_filterMap.2 ⟨_, h, rfl⟩)
theorem grd_looks {o og : Oper} {g : Nat} {b : Bool} {d : Nat} (h : o.guard = some (g, b)) (hg : ops.toList[g]? = some og) (hd : og.dst = some d) : d ∈ looks ops.toList o := by
  unfold looks
  refine List.mem_append_right _ ?_
  simp only [h, lget_eq, hg, hd]; simp
/-- what the operands are, and nothing of what is no operand -/
def only (op : Op) (ρ : Operand → AV) : Operand → AV := open Classical in fun x => if x ∈ op.operands.toList then ρ x else .any
theorem only_eq {op : Op} {ρ : Operand → AV} : ∀ x ∈ op.operands.toList, only op ρ x = ρ x := fun x h => by unfold only; rw [if_pos h]
theorem only_rv {L : LM} (rg : RG L gl) {o : Oper} {loc : Lo} {env : Env} {a : Act} (h : ∀ t, t ∈ looks ops.toList o → RV L (look loc env t) (a.tmps.getD t undef)) (x : Operand) : RV L (only o.op (opd gl loc env) x) (a.eval x) := by
  unfold only
  split
  · rename_i hx
    cases x with
    | tmp t => exact h t (tmp_looks hx)
    | const v => exact rv_ofV L v
    | global g => exact gl_rel rg _ _ a g
    | func f => exact .fn (.func f) [] [] #[] #[] .nil .nil
  · exact .any _
theorem wants_soundL {loc : Lo} {env : Env} {g : Option (Nat × Bool)} {K : Bool → Prop} (hk : wants ops.toList loc env g K)
    {L : LM} {a : Act} {o : Oper} (ho : o.guard = g) (r : ∀ j b oj d, g = some (j, b) → ops.toList[j]? = some oj → oj.dst = some d → RV L (look loc env d) (a.tmps.getD d undef)) :
    ∃ b, K b ∧ Region.wanted o (yielded ops a.tmps) = b := by
  unfold wants at hk
  unfold Region.wanted
  rw [ho]
  split at hk
  · exact ⟨true, hk, rfl⟩
  · rename_i j want
    split at hk <;> try exact hk.elim
    rename_i oj hj
    rw [lget_eq] at hj
    have hj' := hj
    have hj : ops[j]? = some oj := by simpa using hj
    split at hk <;> try exact hk.elim
    rename_i d hd
    have hr := r j want oj d rfl hj' hd
    have hy : ∀ v, a.tmps.getD d undef = v → yielded ops a.tmps j = (match v with | .bool b => some b | _ => none) ∨ (a.tmps[d]? = none) := by
      intro v hv
      cases ht : a.tmps[d]? with
      | none => exact .inr rfl
      | some u =>
        left
        have : a.tmps.getD d undef = u := by simp [Array.getD_eq_getD_getElem?, ht]
        rw [this] at hv; subst hv
        simp [yielded, hj, hd, ht]
        cases u <;> rfl
    split at hk <;> try exact hk.elim
    · rename_i b hb
      rw [hb] at hr
      refine ⟨_, hk, ?_⟩
      generalize hg : a.tmps.getD d undef = v at hr
      cases hr
      rcases hy _ hg with e | e
      · show (yielded ops a.tmps j == some want) = _
        rw [e]; cases b <;> cases want <;> rfl
      · simp [Array.getD_eq_getD_getElem?, e, undef] at hg
    · rename_i vs hb
      rw [hb] at hr
      refine ⟨_, hk, ?_⟩
      generalize hg : a.tmps.getD d undef = v at hr
      cases hr
      rcases hy _ hg with e | e
      · show (yielded ops a.tmps j == some want) = _
        rw [e]; rfl
      · simp [yielded, hj, hd, e]

/-- what holds while a region runs -/
structure Inv (P : Program) (n : Nat) (env : Env) (ops : Array Oper) (es : List Ent) (s0 sF : St) (L0 : LM) (w0 : World) (D : List Deferred) (done : Nat → Prop) (L : LM) (es1 es2 : List Ent) (mid : St) (a : Act) (w : World) : Prop where
  split : es = es1 ++ es2
  l1 : Link es1 s0 mid
  l2 : Link es2 mid sF
  last : es1 = [] ∨ ∃ pre e, es1 = pre ++ [e] ∧ e.b = true ∧ kindO P e.o.op = 3 ∧ done e.i
  no2 : ∀ e ∈ es2, e.b = true → kindO P e.o.op = 3 → ¬ done e.i
  mm : Mid L0 s0.h w0 sF.h.next L mid.h w
  pend : ∀ e ∈ es2, e.b = true → kindO P e.o.op = 2 → done e.i → ∀ k, e.t.h = hnew e.s.h k → Pend L w0.heap.size w e.s.h.next k
  nn : ∀ i p, L i = some p → mid.h.next ≤ i → i < sF.h.next → ∃ e ∈ es2, e.b = true ∧ kindO P e.o.op = 2 ∧ done e.i ∧ i = e.s.h.next
  slot : Slots es done env L a
  size : a.tmps.size = n
  defers : a.defers = D
  closed : Closed ops done

section
variable {L0 L : LM} {w0 w : World} {D : List Deferred} {done : Nat → Prop} {es1 es2 : List Ent} {mid : St} {a : Act}

theorem put_size (a : Act) (d : Option Nat) (v : Value) : (a.put d v).tmps.size = a.tmps.size ∧ (a.put d v).defers = a.defers := by cases d <;> simp [Act.put]
theorem closed_add (hc : Closed ops done) {e : Ent} {o : Oper} (hg : ops.toList[e.i]? = some o) (hp : ∀ p ∈ preds o, done p) : Closed ops (fun j => done j ∨ j = e.i) := by
  intro i o' ho hd p hpp
  rcases hd with hd | rfl
  · exact .inl (hc i o' ho hd p hpp)
  · rw [hg] at ho; cases ho; exact .inl (hp p hpp)

/-- blocks of a stretch of the table -/
theorem walk_seg {anc : List Nat} {all : List Oper} {N : Nat} {h0 : H} : ∀ {seg : List Ent} {s u : St}, Link seg s u → (∀ x ∈ seg, EntOK m P gl call n env all anc x) → (∀ x ∈ seg, x.b = true → kindO P x.o.op ≠ 3) →
    (∀ x ∈ seg, x.b = true → kindO P x.o.op = 2 → ∀ k, x.t.h = hnew x.s.h k → L x.s.h.next = none ∨ Pend L w0.heap.size w x.s.h.next k) → Mid L0 h0 w0 N L s.h w → Mid L0 h0 w0 N L u.h w
  | [], s, u, hl, ok, hno, hp, M => by cases hl; exact M
  | x :: seg, s, u, hl, ok, hno, hp, M => by
    obtain ⟨rfl, hl⟩ := hl
    refine walk_seg hl (fun y hy => ok y (List.mem_cons_of_mem _ hy)) (fun y hy => hno y (List.mem_cons_of_mem _ hy)) (fun y hy => hp y (List.mem_cons_of_mem _ hy)) ?_
    have o := ok x List.mem_cons_self
    cases hb : x.b with
    | false => rw [(o.off hb).2.1]; exact M
    | true =>
      rcases kindO_cases P x.o.op with ⟨_, hn⟩ | ⟨_, _, hn⟩ | ⟨_, _, _, hn⟩ | ⟨_, _, _, hn⟩
      · rw [(o.q hb hn).1]; exact M
      · rw [(o.l hb hn).1]; exact M
      · obtain ⟨k, mv, _, _, hk, _⟩ := o.a hb hn
        have := hp x List.mem_cons_self hb hn k hk
        rw [hk]
        exact M.addA this
      · exact absurd hn (hno x List.mem_cons_self hb)

variable (S : Stat m P gl call n env ops es s0 sF) (I : Inv P n env ops es s0 sF L0 w0 D done L es1 es2 mid a w)
include S I

theorem Inv.ok2 : ∀ x ∈ es2, EntOK m P gl call n env ops.toList (ancL ops.toList []) x := fun x hx => S.ok x (by rw [I.split]; simp [hx])
theorem Inv.ids {x : Ent} (hx : x ∈ es2) : mid.h.next ≤ x.s.h.next ∧ x.t.h.next ≤ sF.h.next := (link_next I.l2 (I.ok2 S)).2 x hx
/-- what is made and is not done is not there -/
theorem Inv.gone {x : Ent} (hx : x ∈ es2) (hb : x.b = true) (hk : kindO P x.o.op = 2) (hd : ¬ done x.i) : L x.s.h.next = none := by
  cases h : L x.s.h.next with
  | none => rfl
  | some p =>
    obtain ⟨h1, h2⟩ := I.ids S hx
    obtain ⟨k, mv, _, _, hk', _⟩ := (I.ok2 S x hx).a hb hk
    have h3 : x.t.h.next = x.s.h.next + 1 := by rw [hk']; rfl
    obtain ⟨y, hy, hyb, hyk, hyd, e⟩ := I.nn _ _ h h1 (by omega)
    obtain ⟨k2, mv2, _, _, hk2, _⟩ := (I.ok2 S y hy).a hyb hyk
    have h4 : y.t.h.next = y.s.h.next + 1 := by rw [hk2]; rfl
    have hx' : x ∈ es := by rw [I.split]; simp [hx]
    have hy' : y ∈ es := by rw [I.split]; simp [hy]
    rcases trich hx' hy' with e' | b | b
    · subst e'; exact absurd hyd hd
    · have := before_next S.link S.ok b; omega
    · have := before_next S.link S.ok b; omega
/-- the heap behind a stretch in which nothing acts -/
theorem Inv.seg {seg post : List Ent} {u : St} (h2 : es2 = seg ++ post) (hl : Link seg mid u) (hno : ∀ x ∈ seg, x.b = true → kindO P x.o.op ≠ 3) : Mid L0 s0.h w0 sF.h.next L u.h w := by
  refine walk_seg hl (fun x hx => I.ok2 S x (by rw [h2]; simp [hx])) hno (fun x hx hb hk k hkk => ?_) I.mm
  have hx2 : x ∈ es2 := by rw [h2]; simp [hx]
  by_cases hdn : done x.i
  · exact .inr (I.pend x hx2 hb hk hdn k hkk)
  · exact .inl (I.gone S hx2 hb hk hdn)

variable {e : Ent} (he : e ∈ es) (hd : ¬ done e.i) (hp : ∀ p ∈ preds e.o, done p)
include he hd hp

/-- a step aside: nothing of the heap in hand changes -/
theorem Inv.aside {L' : LM} {w' : World} {v' : Value} (s : Side sF.h.next L L' mid.h w w') (hv : RV L' e.v v')
    (hact : e.b = true → kindO P e.o.op ≠ 3)
    (hp2 : e ∈ es2 → e.b = true → kindO P e.o.op = 2 → ∀ k, e.t.h = hnew e.s.h k → Pend L' w0.heap.size w' e.s.h.next k)
    (hnone : ∀ i p, L' i = some p → mid.h.next ≤ i → i < sF.h.next → (∃ p, L i = some p) ∨ (e ∈ es2 ∧ e.b = true ∧ kindO P e.o.op = 2 ∧ i = e.s.h.next)) :
    Inv P n env ops es s0 sF L0 w0 D (fun j => done j ∨ j = e.i) L' es1 es2 mid (a.put e.o.dst v') w' where
  split := I.split
  l1 := I.l1
  l2 := I.l2
  last := I.last.imp id fun ⟨pre, x, a, b, c, d⟩ => ⟨pre, x, a, b, c, .inl d⟩
  no2 := fun x hx hb hk hdn => by
    rcases hdn with hdn | hdn
    · exact I.no2 x hx hb hk hdn
    · have := S.uniq (by rw [I.split]; simp [hx]) he hdn
      subst this
      exact hact hb hk
  mm := I.mm.side s
  pend := fun x hx hb hk hdn k hkk => by
    rcases hdn with hdn | hdn
    · exact (I.pend x hx hb hk hdn k hkk).side I.mm.rh s
    · have := S.uniq (by rw [I.split]; simp [hx]) he hdn
      subst this
      exact hp2 hx hb hk k hkk
  nn := fun i p hi h1 h2 => by
    rcases hnone i p hi h1 h2 with ⟨p, h⟩ | ⟨a, b, c, d⟩
    · obtain ⟨x, c1, c2, c3, c4, c5⟩ := I.nn i p h h1 h2
      exact ⟨x, c1, c2, c3, .inl c4, c5⟩
    · exact ⟨e, a, b, c, .inr rfl, d⟩
  slot := S.put I.slot he hd s.ext hv I.size
  size := (put_size _ _ _).1.trans I.size
  defers := (put_size _ _ _).2.trans I.defers
  closed := closed_add I.closed (S.get e he) hp

/-- e does not stand ahead of what has acted last, unless that waits for no e -/
theorem Inv.in2 (hb : e.b = true) (hk : kindO P e.o.op = 3 ∨ kindO P e.o.op = 2) : e ∈ es2 := by
  have h := he
  rw [I.split] at h
  rcases List.mem_append.1 h with h1 | h1
  · rcases I.last with h0 | ⟨pre, x, h2, hb2, hk2, hdn⟩
    · rw [h0] at h1; cases h1
    · have hx : x ∈ es := by rw [I.split, h2]; simp
      rw [h2] at h1
      rcases List.mem_append.1 h1 with h1 | h1
      · have hbe : Before es e x := before_app (xs := pre) (ys := [x] ++ es2) (by rw [I.split, h2, List.append_assoc]) h1 (by simp)
        rcases (ok_pair (S.pair e x hbe).1).1 with h | h
        · exact absurd (S.anc I.closed hx (.inl hdn) h) hd
        · have := h.2.2.1 hk2; omega
      · have : e = x := by simpa using h1
        subst this; exact absurd hdn hd
  · exact h1
/-- nothing acts between what has acted last and what now may run -/
theorem Inv.quiet (hk : kindO P e.o.op = 3 ∨ kindO P e.o.op = 1) {seg post : List Ent} (h2 : es2 = seg ++ e :: post) : ∀ x ∈ seg, x.b = true → kindO P x.o.op ≠ 3 := by
  intro x hx hb hk3
  have hx2 : x ∈ es2 := by rw [h2]; simp [hx]
  have hbe : Before es x e := before_app (xs := es1 ++ seg) (ys := e :: post) (by rw [I.split, h2, List.append_assoc]) (by simp [hx]) (by simp)
  rcases (ok_pair (S.pair x e hbe).1).1 with h | h
  · exact I.no2 x hx2 hb hk3 (S.anc I.closed he (.inr hp) h)
  · rcases hk with hk | hk
    · exact (h.2.2.1 hk).1 hk3
    · exact h.2.2.2 hk hk3

theorem Inv.rd (rg : RG L0 gl) (x : Operand) : RV L (only e.o.op (opd gl e.s.loc env) x) (a.eval x) := only_rv (rg.mono I.mm.ext) (fun t ht => S.read I.closed I.slot he hd hp ht) x

theorem Inv.wanted : Region.wanted e.o (yielded ops a.tmps) = e.b := by
  obtain ⟨b, h1, h2⟩ := wants_soundL (K := fun b => b = e.b) ((S.ok e he).wants _ rfl) (L := L) (a := a) rfl fun j b oj d hg hj hdst => S.read I.closed I.slot he hd hp (grd_looks hg hj hdst)
  rw [h2, h1]

/-- one operation more -/
theorem Inv.go {ro : Option Nat} {Q : Exit → Act → World → Prop} {K : Act → World → Prop} (hc : CallsOK P gl call) (rg : RG L0 gl)
    (hK : ∀ L' es1' es2' mid' a' w', Inv P n env ops es s0 sF L0 w0 D (fun j => done j ∨ j = e.i) L' es1' es2' mid' a' w' → K a' w') : wpOpIn (WF ro) 0 P ops Q e.i K a w := by
  have hg : ops[e.i]? = some e.o := by simpa using S.get e he
  have o := S.ok e he
  unfold wpOpIn
  simp only [hg, I.wanted S he hd hp]
  cases hb : e.b with
  | false =>
    obtain ⟨hv, _, _⟩ := o.off hb
    refine ⟨fun _ _ => trivial, hK _ _ _ _ _ _ (I.aside S he hd hp (Side.refl I.mm.rh) (by rw [hv]; exact .tup [] #[] .nil) (fun h => by rw [hb] at h; cases h) (fun _ h => by rw [hb] at h; cases h) fun i p h _ _ => .inl ⟨p, h⟩)⟩
  | true =>
    show e.o.wpIn (WF ro) 0 P a w K Q
    have plain : (∀ c, e.o.op ≠ .defer c) → ∀ {v' : Value} {w' : World}, Outs ((execOp a.eval e.o).run P w) v' w' → K (a.put e.o.dst v') w' → e.o.wpIn (WF ro) 0 P a w K Q := by
      intro hnd v' w' h hk
      refine wpIn_plain hnd ?_
      rcases h with h | ⟨h, rfl⟩
      · rw [h]; exact hk
      · rw [h]; exact hk
    rcases kindO_cases P e.o.op with ⟨_, hn⟩ | ⟨_, _, hn⟩ | ⟨_, _, _, hn⟩ | ⟨_, _, _, hn⟩
    · -- computes
      have hx := (o.q hb hn).2 ⟨T.leaf, sF.h.next⟩ (fun v h ds => v = e.v ∧ h = ⟨T.leaf, sF.h.next⟩) ⟨rfl, rfl⟩
      rw [← xop_congr (only_eq (ρ := opd gl e.s.loc env))] at hx
      obtain ⟨v, h', ds', L', v', w', ⟨rfl, rfl⟩, a2, a3, a4, a5⟩ := xop_sound (L := L) (w := w) (U := sF.h.next) (rh_leaf I.mm.rh fun i h1 h2 => by omega) (fun v h ds hv => by rw [hv.2]; exact Nat.le_refl _) (I.rd S he hd hp rg) e.o hx
      have hnx := (link_next I.l2 (I.ok2 S)).1
      have sd : Side sF.h.next L L' mid.h w w' := side_of a5 a4 hnx (Nat.le_refl _)
      refine plain (xop_nd hx) a2 (hK _ _ _ _ _ _ (I.aside S he hd hp sd a3 (fun _ => by rw [hn]; decide) (fun _ _ h => by rw [hn] at h; cases h) fun i p h h1 h2 => ?_))
      rcases a5.new i p h with h | ⟨h3, h4, _⟩
      · exact .inl ⟨p, h⟩
      · have h3 : sF.h.next ≤ i := h3
        omega
    · -- looks into memory
      obtain ⟨_, lk, hop, hrl, hall⟩ := o.l hb hn
      have key : ∃ h ds ds', Mid L0 s0.h w0 sF.h.next L h w ∧ ∀ K' : KV, K' e.v h ds' → xlk m P lk h ds K' := by
        have h := he
        rw [I.split] at h
        rcases List.mem_append.1 h with h1 | h1
        · rcases I.last with h0 | ⟨pre, y, h2, hb2, hk2, hdn⟩
          · rw [h0] at h1; cases h1
          · have hy : y ∈ es := by rw [I.split, h2]; simp
            rw [h2] at h1
            rcases List.mem_append.1 h1 with h1 | h1
            · have hbe : Before es e y := before_app (xs := pre) (ys := [y] ++ es2) (by rw [I.split, h2, List.append_assoc]) h1 (by simp)
              have hna : an (ancL ops.toList []) e.i y.i = false := by
                cases h : an (ancL ops.toList []) e.i y.i with
                | false => rfl
                | true => exact absurd (S.anc I.closed hy (.inl hdn) h) hd
              have hl1 := I.l1
              rw [h2] at hl1
              obtain ⟨u, l1, l2, l3⟩ := link_app.1 hl1
              subst l2
              have l3 : y.t = mid := l3
              have hin := link_rl l1 (fun z hz => S.ok z (by rw [I.split, h2]; simp [hz])) (.inr ⟨e, h1, hrl⟩)
              obtain ⟨ds2, hx⟩ := (S.ok y hy).agn hb2 hk2 _ hin hna
              rw [l3] at hx
              exact ⟨mid.h, _, ds2, I.mm, hx⟩
            · have : e = y := by simpa using h1
              subst this; exact absurd hdn hd
        · obtain ⟨seg, post, h2⟩ := List.append_of_mem h1
          have hl2 := I.l2
          rw [h2] at hl2
          obtain ⟨u, l1, l2, l3⟩ := link_app.1 hl2
          subst l2
          exact ⟨e.s.h, _, _, I.seg S h2 l1 (I.quiet S he hd hp (.inr hn) h2), hall⟩
      obtain ⟨h, ds, ds', M, hx⟩ := key
      have hrdx : ∀ x, x ∈ e.o.op.operands.toList → RV L (opd gl e.s.loc env x) (a.eval x) := fun x hx => by
        have := I.rd S he hd hp rg x
        rwa [only_eq x hx] at this
      have hx := hx (fun v _ _ => v = e.v) rfl
      cases hoo : e.o.op <;> rw [hoo] at hop <;> try (cases hop; done)
      · rename_i t x
        cases hop
        have hx : xload m P t (opd gl e.s.loc env x) h ds (fun v _ _ => v = e.v) := hx
        obtain ⟨v, ds2, v', rfl, b2, b3⟩ := xload_ro M.rh (hrdx x (by rw [hoo]; simp [Op.operands])) hx
        exact plain (by intro c h; rw [hoo] at h; cases h) (v' := v') (w' := w) (.inl (by simp [execOp, hoo, b2])) (hK _ _ _ _ _ _ (I.aside S he hd hp (Side.refl I.mm.rh) b3 (fun _ => by rw [hn]; decide) (fun _ _ h => by rw [hn] at h; cases h) fun i p h _ _ => .inl ⟨p, h⟩))
      · rename_i t x kk ok
        cases hop
        have hx : xlookI P t (opd gl e.s.loc env x) (opd gl e.s.loc env kk) ok h ds (fun v _ _ => v = e.v) := hx
        rw [xlookI_eq] at hx
        obtain ⟨v, ds2, v', rfl, b2, b3⟩ := xlook_ro M.rh (hrdx x (by rw [hoo]; simp [Op.operands])) (hrdx kk (by rw [hoo]; simp [Op.operands])) hx
        exact plain (by intro c h; rw [hoo] at h; cases h) (v' := v') (w' := w) (.inl (by simp [execOp, hoo, b2])) (hK _ _ _ _ _ _ (I.aside S he hd hp (Side.refl I.mm.rh) b3 (fun _ => by rw [hn]; decide) (fun _ _ h => by rw [hn] at h; cases h) fun i p h _ _ => .inl ⟨p, h⟩))
    · -- makes
      have h2 := I.in2 S he hd hp hb (.inr hn)
      obtain ⟨k, mv, nm, hv, hk, hall⟩ := o.a hb hn
      obtain ⟨i1, i2⟩ := I.ids S h2
      have hN : e.s.h.next + 1 ≤ sF.h.next := by rw [hk] at i2; exact i2
      have hgone := I.gone S h2 hb hn hd
      have hx := hall ⟨T.leaf, e.s.h.next⟩ (fun v h ds => v = e.v ∧ h = hnew ⟨T.leaf, e.s.h.next⟩ k) ⟨hv.symm, rfl⟩
      rw [← xop_congr (only_eq (ρ := opd gl e.s.loc env))] at hx
      obtain ⟨v, h', ds', L', v', w', ⟨rfl, rfl⟩, a2, a3, a4, a5⟩ := xop_sound (L := L) (w := w) (U := e.s.h.next + 1)
        (rh_leaf I.mm.rh fun i h1 h2 => by have : i = e.s.h.next := by omega
                                           rw [this]; exact hgone) (fun v h ds hv => by rw [hv.2]; exact Nat.le_refl _) (I.rd S he hd hp rg) e.o hx
      have sd : Side sF.h.next L L' mid.h w w' := side_of a5 a4 i1 hN
      refine plain (xop_nd hx) a2 (hK _ _ _ _ _ _ (I.aside S he hd hp sd a3 (fun _ => by rw [hn]; decide) (fun _ _ _ k2 hk2 => ?_) fun i p h h1 h2' => ?_))
      · have hkk : k2 = k := hnew_inj (hk2.symm.trans hk)
        subst hkk
        obtain ⟨p, hp'⟩ := nm L' _ v' (hv ▸ a3)
        have hB : w.heap.size ≤ p.B := by
          rcases a5.new _ _ hp' with h | ⟨_, _, h⟩
          · rw [hgone] at h; cases h
          · rcases h with h | ⟨i, kk, q, hi, _⟩
            · exact h
            · exact (leaf_none hi).elim
        refine ⟨p, hp', a4.mem _ _ _ (hnew_get _ _) hp', Nat.le_trans I.mm.size hB, fun j q hj ej => ?_⟩
        rcases a5.new j q hj with h | ⟨h3, h4, _⟩
        · have := I.mm.rh.below _ _ h; omega
        · have h3 : e.s.h.next ≤ j := h3
          have h4 : j < e.s.h.next + 1 := h4
          omega
      · rcases a5.new i p h with h | ⟨h3, h4, _⟩
        · exact .inl ⟨p, h⟩
        · have h3 : e.s.h.next ≤ i := h3
          have h4 : i < e.s.h.next + 1 := h4
          exact .inr ⟨h2, hb, hn, by omega⟩
    · -- acts
      have h2 := I.in2 S he hd hp hb (.inl hn)
      obtain ⟨seg, post, hs⟩ := List.append_of_mem h2
      have hl2 := I.l2
      rw [hs] at hl2
      obtain ⟨u, l1, l2, l3⟩ := link_app.1 hl2
      subst l2
      have M := I.seg S hs l1 (I.quiet S he hd hp (.inl hn) hs)
      obtain ⟨i1, i2⟩ := I.ids S h2
      have kinds : ∀ x, kindO P x.o.op = 2 → x ≠ e := fun x hx h => by subst h; rw [hn] at hx; cases hx
      have hx := o.act hb (fun v h ds => v = e.v ∧ h = e.t.h) ⟨rfl, rfl⟩
      rw [← xact_congr (only_eq (ρ := opd gl e.s.loc env))] at hx
      have inpost : ∀ x ∈ es2, x ≠ e → e.t.h.next ≤ x.s.h.next → (x.b = true → kindO P x.o.op = 2 → x ∈ post) := by
        intro x hx hne hle hxb hxk
        rw [hs] at hx
        rcases List.mem_append.1 hx with hx | hx
        · have hb' : Before es x e := before_app (xs := es1 ++ seg) (ys := e :: post) (by rw [I.split, hs, List.append_assoc]) (by simp [hx]) (by simp)
          have h3 := before_next S.link S.ok hb'
          have hx2 : x ∈ es2 := by rw [hs]; simp [hx]
          obtain ⟨k, mv, _, _, hk, _⟩ := (I.ok2 S x hx2).a hxb hxk
          have h4 : x.t.h.next = x.s.h.next + 1 := by rw [hk]; rfl
          have := o.next
          omega
        · rcases List.mem_cons.1 hx with rfl | hx
          · exact absurd rfl hne
          · exact hx
      refine xact_sound hc hx (U := e.t.h.next) (fun v h ds hv => by rw [hv.2]; exact Nat.le_refl _) (rg.mono I.mm.ext) (I.rd S he hd hp rg) (rh_fresh M.rh fun i h1 h3 => ?_) ?_
      · cases hL : L i with
        | none => rfl
        | some p =>
          obtain ⟨y, hy, hyb, hyk, hyd, rfl⟩ := I.nn i p hL (by omega) (by omega)
          obtain ⟨k2, mv2, _, _, hk2, _⟩ := (I.ok2 S y hy).a hyb hyk
          have h4 : y.t.h.next = y.s.h.next + 1 := by rw [hk2]; rfl
          rcases trich (by rw [I.split]; simp [hy] : y ∈ es) he with e' | b | b
          · exact absurd e' (kinds y hyk)
          · have := before_next S.link S.ok b; omega
          · have := before_next S.link S.ok b; omega
      · rintro v h' ds' L' v' w' ⟨rfl, rfl⟩ q2 q3 q4
        have post2 : ∀ x ∈ post, x ∈ es2 ∧ x ∈ es ∧ x ≠ e ∧ e.t.h.next ≤ x.s.h.next := by
          intro x hx
          have hx2 : x ∈ es2 := by rw [hs]; simp [hx]
          have hxe : x ∈ es := by rw [I.split]; simp [hx2]
          have hb' : Before es e x := before_app (xs := es1 ++ seg ++ [e]) (ys := post) (by rw [I.split, hs]; simp) (by simp) hx
          refine ⟨hx2, hxe, fun h => ?_, before_next S.link S.ok hb'⟩
          subst h; exact (S.pair _ _ hb').2 rfl
        refine hK L' (es1 ++ (seg ++ [e])) post e.t _ _ ⟨by rw [I.split, hs]; simp, ?_, l3, .inr ⟨es1 ++ seg, e, by simp, hb, hn, .inr rfl⟩, ?_, M.step q4 q3 i2, ?_, ?_, S.put I.slot he hd q4.ext q2 I.size,
          (put_size _ _ _).1.trans I.size, (put_size _ _ _).2.trans I.defers, closed_add I.closed (S.get e he) hp⟩
        · exact link_app.2 ⟨mid, I.l1, link_app.2 ⟨e.s, l1, rfl, rfl⟩⟩
        · intro x hx hxb hxk hdn
          obtain ⟨p1, p2, p3, _⟩ := post2 x hx
          rcases hdn with hdn | hdn
          · exact I.no2 x p1 hxb hxk hdn
          · exact p3 (S.uniq p2 he hdn)
        · intro x hx hxb hxk hdn k hkk
          obtain ⟨p1, p2, p3, p4⟩ := post2 x hx
          rcases hdn with hdn | hdn
          · refine (I.pend x p1 hxb hxk hdn k hkk).step M.rh q4 ?_
            cases hgt : e.s.h.b.get x.s.h.next with
            | none => rfl
            | some kk => have := M.rh.live _ _ hgt; have := o.next; omega
          · exact absurd (S.uniq p2 he hdn) p3
        · intro i p hi h1 h3
          rcases q4.new i p hi with h | ⟨_, h, _⟩
          · have := o.next
            obtain ⟨y, hy, hyb, hyk, hyd, hyi⟩ := I.nn i p h (by omega) h3
            exact ⟨y, inpost y hy (kinds y hyk) (by omega) hyb hyk, hyb, hyk, .inl hyd, hyi⟩
          · omega
end

/-! From the plan to the table, and the run -/
theorem nodup_full {l : List Nat} {N : Nat} (hn : l.Nodup) (hl : ∀ x ∈ l, x < N) (hs : l.length = N) (i : Nat) (hi : i < N) : i ∈ l := by
  by_cases h : i ∈ l
  · exact h
  · have := List.Nodup.length_le_of_subset (l₁ := i :: l) (l₂ := List.range N) (List.nodup_cons.2 ⟨h, hn⟩) (fun x hx => by
      rcases List.mem_cons.1 hx with rfl | hx
      · exact List.mem_range.2 hi
      · exact List.mem_range.2 (hl x hx))
    simp at this; omega
theorem okAll_at {all : List Oper} {anc : List Nat} : ∀ {its bef : List (Nat × Oper)}, okAll P all anc bef its = true → ∀ pre x post, its = pre ++ x :: post → okOne P all anc (bef ++ pre) x.1 x.2 = true
  | [], bef, h, pre, x, post, e => by simp at e
  | y :: its, bef, h, pre, x, post, e => by
    simp only [okAll, Bool.and_eq_true] at h
    cases pre with
    | nil => simp at e; obtain ⟨rfl, rfl⟩ := e; simpa using h.1
    | cons z pre =>
      simp at e; obtain ⟨rfl, rfl⟩ := e
      have := okAll_at h.2 pre x post rfl
      simpa using this
theorem itemsOf_get {all : List Oper} : ∀ {pi : List Nat} {its : List (Nat × Oper)}, itemsOf all pi = some its → ∀ x ∈ its, all[x.1]? = some x.2
  | [], its, h, x, hx => by simp [itemsOf] at h; subst h; cases hx
  | i :: pi, its, h, x, hx => by
    simp only [itemsOf, List.mapM_cons] at h
    cases hi : lget all i with
    | none => rw [hi] at h; simp at h
    | some o =>
      rw [hi] at h
      cases hr : itemsOf all pi with
      | none => simp only [itemsOf] at hr; rw [hr] at h; simp at h
      | some r =>
        have hr' := hr
        simp only [itemsOf] at hr; rw [hr] at h
        simp at h; subst h
        rcases List.mem_cons.1 hx with rfl | hx
        · rw [lget_eq] at hi; exact hi
        · exact itemsOf_get hr' x hx
theorem planOf_stat {gl : Glob} {call : XCall} {n : Nat} {env : Env} {ops : Array Oper} {its : List (Nat × Oper)} (h : planOf P ops.toList = some its) {es : List Ent} {s0 sF : St} (hm : es.map (fun e => (e.i, e.o)) = its)
    (hl : Link es s0 sF) (h0 : s0.loc = []) (ok : ∀ e ∈ es, EntOK m P gl call n env ops.toList (ancL ops.toList []) e) : Stat m P gl call n env ops es s0 sF ∧ P.follows .mixedOrders = true := by
  unfold planOf at h
  cases hi : itemsOf ops.toList (canon P ops.toList) with
  | none => rw [hi] at h; cases h
  | some its' =>
    rw [hi] at h
    dsimp only at h
    split at h <;> try (cases h; done)
    rename_i hc
    cases h
    simp only [Bool.and_eq_true] at hc
    obtain ⟨⟨hall, hlen⟩, hmix⟩ := hc
    have get : ∀ e ∈ es, ops.toList[e.i]? = some e.o := fun e he => itemsOf_get hi (e.i, e.o) (by rw [← hm]; exact List.mem_map.2 ⟨e, he, rfl⟩)
    have one : ∀ pre e post, es = pre ++ e :: post → okOne P ops.toList (ancL ops.toList []) (pre.map fun e => (e.i, e.o)) e.i e.o = true := by
      intro pre e post hs
      have := okAll_at hall (pre.map fun e => (e.i, e.o)) (e.i, e.o) (post.map fun e => (e.i, e.o)) (by rw [← hm, hs]; simp)
      simpa using this
    have pair : ∀ x e, Before es x e → okPair P ops.toList (ancL ops.toList []) x.i e.i x.o e.o = true ∧ x.i ≠ e.i := by
      rintro x e ⟨pre, post, hs, hx⟩
      have := one pre e post hs
      simp only [okOne, Bool.and_eq_true, List.all_eq_true] at this
      obtain ⟨⟨h1, _⟩, _⟩ := this
      have := h1 (x.i, x.o) (List.mem_map.2 ⟨x, hx, rfl⟩)
      exact ⟨this.2, by simpa using this.1⟩
    refine ⟨⟨hl, h0, ok, get, pair, ?_, ?_⟩, hmix⟩
    · intro pre e post hs p hp
      have := one pre e post hs
      simp only [okOne, Bool.and_eq_true, List.all_eq_true] at this
      obtain ⟨⟨_, h2⟩, _⟩ := this
      have := h2 p hp
      simp at this
      obtain ⟨x, hx, rfl⟩ := this
      exact ⟨x, hx, rfl⟩
    · intro i hi'
      have hnd : (es.map (·.i)).Nodup := by
        unfold List.Nodup
        rw [List.pairwise_map]
        have : ∀ l : List Ent, (∀ x e, Before l x e → x.i ≠ e.i) → l.Pairwise fun a b => a.i ≠ b.i := by
          intro l
          induction l with
          | nil => intro _; exact .nil
          | cons z l ih => exact fun h => .cons (fun y hy => h z y (.head hy)) (ih fun x e hb => h x e (.cons z hb))
        exact this es fun x e hb => (pair x e hb).2
      have hlen' : (es.map (·.i)).length = ops.size := by
        have : its.length = ops.toList.length := by simpa using hlen
        rw [← hm] at this; simpa using this
      have := nodup_full hnd (fun x hx => by
        obtain ⟨e, he, rfl⟩ := List.mem_map.1 hx
        have := (List.getElem?_eq_some_iff.1 (get e he)).1
        simpa using this) hlen' i hi'
      obtain ⟨e, he, rfl⟩ := List.mem_map.1 this
      exact ⟨e, he, rfl⟩

theorem filter_lt {p q : Nat → Bool} {i : Nat} : ∀ {l : List Nat}, (∀ x ∈ l, q x = true → p x = true) → i ∈ l → p i = true → q i = false → (l.filter q).length < (l.filter p).length
  | x :: l, h, hi, hp, hq => by
    have le : ∀ l : List Nat, (∀ x ∈ l, q x = true → p x = true) → (l.filter q).length ≤ (l.filter p).length := by
      intro l
      induction l with
      | nil => intro _; simp
      | cons y l ih =>
        intro h
        have := ih fun x hx => h x (by simp [hx])
        simp only [List.filter_cons]
        cases hqy : q y with
        | false => cases p y <;> simp <;> omega
        | true => rw [h y (by simp) hqy]; simpa using this
    have ih := filter_lt (l := l) (i := i) fun y hy => h y (by simp [hy])
    have le := le l fun y hy => h y (by simp [hy])
    simp only [List.filter_cons]
    rcases List.mem_cons.1 hi with rfl | hi
    · rw [hp, hq]; simp; omega
    · have ih := ih hi hp hq
      cases hqx : q x with
      | false => cases p x <;> simp <;> omega
      | true => rw [h x (by simp) hqx]; simpa using ih

def isDone (listed : Array Bool) (i : Nat) : Prop := listed.getD i false = true
def left (ops : Array Oper) (listed : Array Bool) : Nat := ((List.range ops.size).filter fun i => !listed.getD i true).length
theorem ready_spec {ops : Array Oper} {listed : Array Bool} (hs : listed.size = ops.size) {i : Nat} : i ∈ Region.ready .any ops listed ↔ ∃ o, ops.toList[i]? = some o ∧ ¬ isDone listed i ∧ ∀ p ∈ preds o, isDone listed p := by
  unfold Region.ready isDone
  simp only [List.mem_filter, List.mem_range, Bool.and_eq_true]
  constructor
  · rintro ⟨hi, h1, h2⟩
    have hg : ops[i]? = some ops[i] := Array.getElem?_eq_getElem hi
    have hl : listed[i]? = some (listed[i]'(by omega)) := Array.getElem?_eq_getElem (by omega)
    refine ⟨ops[i], by simp, ?_, ?_⟩
    · simp [Array.getD_eq_getD_getElem?, hl] at h1 ⊢; exact h1
    · intro p hp
      rw [hg] at h2
      simp only [Option.map_some, Option.getD_some, Array.all_eq_true_iff_forall_mem] at h2
      unfold preds at hp
      obtain ⟨e, he, rfl⟩ := List.mem_map.1 hp
      obtain ⟨he, hb⟩ := List.mem_filter.1 he
      have := h2 e (by simpa using he)
      simpa [hb] using this
  · rintro ⟨o, ho, h1, h2⟩
    have hi : i < ops.size := by have := (List.getElem?_eq_some_iff.1 ho).1; simpa using this
    have hg : ops[i]? = some o := by simpa using ho
    have hl : listed[i]? = some (listed[i]'(by omega)) := Array.getElem?_eq_getElem (by omega)
    refine ⟨hi, ?_, ?_⟩
    · simp [Array.getD_eq_getD_getElem?, hl] at h1 ⊢; exact h1
    · rw [hg]
      simp only [Option.map_some, Option.getD_some, Array.all_eq_true_iff_forall_mem]
      intro e he
      cases hb : Region.binds .any e with
      | false => simp
      | true =>
        have := h2 e.on (by unfold preds; exact List.mem_map.2 ⟨e, List.mem_filter.2 ⟨by simpa using he, hb⟩, rfl⟩)
        simpa using this

section
variable {call : XCall} {n : Nat} {env : Env} {ops : Array Oper} {es : List Ent} {s0 sF : St} {L0 : LM} {w0 : World} {D : List Deferred}

theorem Inv.congr {done done' : Nat → Prop} {L : LM} {es1 es2 : List Ent} {mid : St} {a : Act} {w : World} (h : ∀ j, done j ↔ done' j) (I : Inv P n env ops es s0 sF L0 w0 D done L es1 es2 mid a w) :
    Inv P n env ops es s0 sF L0 w0 D done' L es1 es2 mid a w := by
  have : done = done' := funext fun j => propext (h j)
  rwa [← this]
theorem any_run {ro : Option Nat} (S : Stat m P gl call n env ops es s0 sF) (hc : CallsOK P gl call) (rg : RG L0 gl) {Q : Exit → Act → World → Prop}
    (hQ : ∀ done L es1 es2 mid a w, Inv P n env ops es s0 sF L0 w0 D done L es1 es2 mid a w → (∀ e ∈ es, done e.i) → Q .normal a w) :
    ∀ (fuel : Nat) (listed : Array Bool) (L : LM) (es1 es2 : List Ent) (mid : St) (a : Act) (w : World), listed.size = ops.size → left ops listed ≤ fuel →
      Inv P n env ops es s0 sF L0 w0 D (isDone listed) L es1 es2 mid a w → wpAnyIn (WF ro) 0 P .any ops Q fuel listed a w := by
  have full : ∀ (listed : Array Bool) (L : LM) (es1 es2 : List Ent) (mid : St) (a : Act) (w : World), listed.size = ops.size →
      Inv P n env ops es s0 sF L0 w0 D (isDone listed) L es1 es2 mid a w → Region.ready .any ops listed = [] → Q .normal a w := by
    intro listed L es1 es2 mid a w hs I hr
    refine hQ _ _ _ _ _ _ _ I ?_
    have : ∀ (post pre : List Ent), es = pre ++ post → (∀ x ∈ pre, isDone listed x.i) → ∀ e ∈ es, isDone listed e.i := by
      intro post
      induction post with
      | nil => intro pre h hp e he; rw [h] at he; exact hp e (by simpa using he)
      | cons y post ih =>
        intro pre h hp
        refine ih (pre ++ [y]) (by rw [h]; simp) fun x hx => ?_
        rcases List.mem_append.1 hx with hx | hx
        · exact hp x hx
        · have : x = y := by simpa using hx
          subst this
          have hx : x ∈ es := by rw [h]; simp
          by_cases hd : isDone listed x.i
          · exact hd
          · have hm : x.i ∈ Region.ready .any ops listed := (ready_spec hs).2 ⟨x.o, S.get x hx, hd, fun p hpp => by
              obtain ⟨z, hz, rfl⟩ := S.pre pre x post h p hpp
              exact hp z hz⟩
            rw [hr] at hm; cases hm
    exact this es [] rfl (by simp)
  intro fuel
  induction fuel with
  | zero =>
    intro listed L es1 es2 mid a w hs hle I
    have hr : Region.ready .any ops listed = [] := by
      cases h : Region.ready .any ops listed with
      | nil => rfl
      | cons i r =>
        have hm : i ∈ Region.ready .any ops listed := by rw [h]; simp
        have : i ∈ ((List.range ops.size).filter fun i => !listed.getD i true) := by
          unfold Region.ready at hm
          simp only [List.mem_filter, Bool.and_eq_true] at hm ⊢
          exact ⟨hm.1, hm.2.1⟩
        unfold left at hle
        have h0 := List.length_eq_zero_iff.1 (Nat.le_zero.1 hle)
        rw [h0] at this; cases this
    exact ⟨hr, full listed L es1 es2 mid a w hs I hr⟩
  | succ fuel ih =>
    intro listed L es1 es2 mid a w hs hle I
    refine ⟨fun hr => full listed L es1 es2 mid a w hs I hr, fun i hi => ?_⟩
    obtain ⟨o, ho, hd, hp⟩ := (ready_spec hs).1 hi
    have hil : i < ops.size := by have := (List.getElem?_eq_some_iff.1 ho).1; simpa using this
    obtain ⟨e, he, rfl⟩ := S.all i hil
    have : e.o = o := by have := S.get e he; rw [ho] at this; exact (Option.some.inj this).symm
    subst this
    have hl : listed[e.i]? = some (listed[e.i]'(by omega)) := Array.getElem?_eq_getElem (by omega)
    refine I.go S he hd hp hc rg fun L' es1' es2' mid' a' w' I' => ih _ L' es1' es2' mid' a' w' (by simp [hs]) ?_ (I'.congr fun j => ?_)
    · have : left ops (listed.setIfInBounds e.i true) < left ops listed := by
        refine filter_lt (i := e.i) (fun x hx hq => ?_) (List.mem_range.2 hil) ?_ ?_
        · simp [Array.getD_eq_getD_getElem?, Array.getElem?_setIfInBounds] at hq ⊢
          by_cases hxe : e.i = x
          · subst hxe; simp [hs, hil] at hq
          · simpa [hxe] using hq
        · unfold isDone at hd
          simp [Array.getD_eq_getD_getElem?, hl] at hd ⊢; exact hd
        · simp [Array.getD_eq_getD_getElem?, hs, hil]
      omega
    · unfold isDone
      simp only [Array.getD_eq_getD_getElem?, Array.getElem?_setIfInBounds]
      by_cases hje : e.i = j
      · subst hje; simp [hs, hil]
      · simp [hje, Ne.symm hje]

theorem not_done {N j : Nat} (h : isDone (Array.replicate N false) j) : False := by
  unfold isDone at h
  rw [Array.getD_eq_getD_getElem?, Array.getElem?_replicate] at h
  split at h <;> cases h
theorem drawOK : DrawOK P gl m := by
  intro ro call hc hs n env id ops h ds K Q D U L a w hk hU rg hl hn hd r hQ
  unfold xdraw at hk
  cases hp : planOf P ops.toList with
  | none => rw [hp] at hk; exact hk.elim
  | some its =>
    rw [hp] at hk
    have hk : xdr m P gl call n env ops.toList (ancL ops.toList []) its [] h ds [] K := hk
    obtain ⟨es, t, e1, e2, e3, e4⟩ := xdr_tab hs its ⟨[], h, ds, []⟩ K hk
    obtain ⟨S, hmix⟩ := planOf_stat hp e1 e2 rfl e3
    refine wpIn_region_any hmix ?_
    have hU' := hU _ _ _ e4
    have r' : RH L h { w with drawn := w.drawn + 1 } U := r.heap rfl
    refine any_run (L0 := L) (w0 := { w with drawn := w.drawn + 1 }) (D := D) S hc rg (fun done L' es1 es2 mid a' w' I hall => ?_) ops.size _ L [] es ⟨[], h, ds, []⟩ a _ (by simp) ?_
      ⟨rfl, rfl, e2, .inl rfl, ?_, Mid.start r', ?_, ?_, ⟨?_, ?_⟩, hn, hd, ?_⟩
    · have M : Mid L h { w with drawn := w.drawn + 1 } t.h.next L' t.h w' := by
        have := I.seg (post := []) (seg := es2) S (by simp) I.l2 fun x hx hb hk3 => I.no2 x hx hb hk3 (hall x (by rw [I.split]; simp [hx]))
        exact this
      refine hQ t.loc t.h t.ds L' a' w' e4 (fun x => ?_) I.size I.defers (rh_fresh M.rh fun i h1 h2 => ?_) ⟨M.ext, M.size, M.keep, M.own, M.new, M.next, M.os, M.output, M.tape, M.fro⟩
      · rcases link_look (x := x) e2 e3 with ⟨e, a1, a2, a3⟩ | ⟨a1, a2⟩
        · rw [a3]; exact I.slot.wr e a1 x a2 (hall e a1)
        · rw [a2]; exact I.slot.no x fun e he h => absurd h (a1 e he)
      · cases hi : L' i with
        | none => rfl
        | some p =>
          rcases M.new i p hi with h3 | ⟨_, h3, _⟩
          · have hle : h.next ≤ t.h.next := M.next
            have := r.fresh i (by omega) h2
            rw [h3] at this; cases this
          · omega
    · unfold left
      exact Nat.le_trans (List.length_filter_le _ _) (by simp)
    · intro e he _ _ hd
      exact not_done hd
    · intro e he _ _ hd
      exact (not_done hd).elim
    · intro i p hi h1 h2
      have h1 : h.next ≤ i := h1
      have := r.fresh i h1 (by omega)
      rw [hi] at this; cases this
    · intro e he x _ hd
      exact (not_done hd).elim
    · intro x _
      exact hl x
    · intro i o _ hd
      exact (not_done hd).elim
end
end
end
end Go.X
/- What a run of the executor says of a call. -/
set_option autoImplicit false
set_option linter.unusedVariables false
namespace Go.X
noncomputable section
section
variable {P : Program}

/-- the heap of one who has nothing -/
def hNil : H := ⟨T.leaf, 0⟩
theorem rh_nil (w : World) (U : Nat) : RH (fun _ => none) hNil w U :=
  ⟨fun i k p hi => (leaf_none hi).elim, fun i j ki kj p q hi => (leaf_none hi).elim, fun _ _ _ => rfl, fun i p h => (by cases h), fun i k hi => (leaf_none hi).elim⟩
theorem own_nil {L : LM} {B : Nat} (h : Own L hNil B) : False := by
  obtain ⟨i, k, p, hi, _⟩ := h; exact leaf_none hi

/-- what was there is there, and nothing else of the world has changed -/
structure Quiet (w w' : World) : Prop where
  size : w.heap.size ≤ w'.heap.size
  keep : ∀ B, B < w.heap.size → w'.heap[B]? = w.heap[B]?
  os : w'.os = w.os
  output : w'.output = w.output
  tape : w'.tape = w.tape
  fro : ∀ a, a.block < w.heap.size → w'.frozen? a = w.frozen? a
theorem Step.quiet {L L' : LM} {h' : H} {w w' : World} (s : Step L L' hNil h' w w') : Quiet w w' :=
  ⟨s.size, fun B hB => s.keep B hB own_nil, s.os, s.output, s.tape, s.fro⟩
theorem Quiet.rh {L : LM} {h : H} {w w' : World} {U : Nat} (q : Quiet w w') (r : RH L h w U) : RH L h w' U ∧ Step L L h h w w' :=
  ⟨⟨fun i k p hi hp => (r.mem i k p hi hp).keep (q.keep _ (r.below _ _ hp)), r.sep, r.fresh, fun i p hp => Nat.lt_of_lt_of_le (r.below i p hp) q.size, r.live⟩,
   ⟨Ext.refl L, q.size, fun B hB _ => q.keep B hB, fun _ h _ => h, fun _ _ h => .inl h, Nat.le_refl _, q.os, q.output, q.tape, q.fro⟩⟩

theorem xcode_code {C : Cfg} (hC : ConOK C P) (hS : SplCon C) (fuel : Nat) : CodeOK C P C.gl (xcode C P fuel) := (xcode_both hC hS drawOK fuel).1
theorem xrun_call {C : Cfg} (hC : ConOK C P) (hS : SplCon C) {fuel f : Nat} {args : List AV} {h : H} {ds : List Bool} {K : KV} (hk : xfun C P (xcode C P fuel) f args h ds K) (hfk : Nat.ble (Nat.succ f) YK = true := by rfl) : CallOK P C.gl f args h K :=
  ((xfun_sound hC (xcode_spl hS fuel) (xcode_code hC hS fuel)).fn _ _ _ _ _ hfk hk).2
/-- a fact that is not to be unfolded -/
structure Ran (p : Prop) : Prop where
  out : p
theorem ran_of {p : Prop} (h : p = True) : Ran p := ⟨by rw [h]; trivial⟩
/-- a call that owns nothing of the heap -/
theorem xrun_ro {C : Cfg} (hC : ConOK C P) (hS : SplCon C) {fuel f : Nat} {args : List AV} {h : H} {ds : List Bool} {Q : AV → Prop} (hk : Ran (xfun C P (xcode C P fuel) f args h ds (fun v _ _ => Q v)))
    {L : LM} {w : World} (rh : ∀ U, RH L h w U) (ro : ∀ B, ¬ Own L h B) (rg : RG L C.gl) {args' : Array Value} (hargs : RVs L args args'.toList) (hfk : Nat.ble (Nat.succ f) YK = true := by rfl) :
    Calls P f args' w fun e w' => ∃ v v' L', e = .returned v' ∧ Q v ∧ RV L' v v' ∧ Quiet w w' := by
  obtain ⟨v, h', ds', hq, _, back⟩ := xfun_spl hS (xcode_spl hS fuel) f args h ds _ hk.out
  have hk2 := back (fun v2 h2 _ => v2 = v ∧ h2 = h') ⟨rfl, rfl⟩
  refine Calls.mono (xrun_call hC hS hk2 (hfk := hfk) L w args' h'.next rg hargs (rh _) fun _ _ _ h => by rw [h.2]; exact Nat.le_refl _) ?_
  rintro e w' ⟨v2, h2, ds2, L', v', rfl, ⟨rfl, rfl⟩, k1, k2, s⟩
  exact ⟨_, v', L', rfl, hq, k1, ⟨s.size, fun B hB => s.keep B hB (ro B), s.os, s.output, s.tape, s.fro⟩⟩
theorem xrun_nil {C : Cfg} (hC : ConOK C P) (hS : SplCon C) (hg : C.gl = fun _ => none) {fuel f : Nat} {args : List AV} {ds : List Bool} {Q : AV → Prop} (hk : Ran (xfun C P (xcode C P fuel) f args hNil ds (fun v _ _ => Q v)))
    {args' : Array Value} (hargs : RVs (fun _ => none) args args'.toList) (w : World) (hfk : Nat.ble (Nat.succ f) YK = true := by rfl) : Calls P f args' w fun e w' => ∃ v v' L', e = .returned v' ∧ Q v ∧ RV L' v v' ∧ Quiet w w' :=
  xrun_ro hC hS hk (fun U => rh_nil w U) (fun B => own_nil) (by rw [hg]; intro g i h; cases h) hargs hfk

/-! Contracts -/
abbrev Con := List AV → H → List Bool → KV → Prop
/-- takes nothing, answers true, leaves the heap as it is -/
def conTrue : Con := fun args h ds K => match args with
  | [] => K (.bool true) h ds
  | _ => False
theorem conTrue_spl (args : List AV) (h : H) (ds : List Bool) : Spl h (fun K => conTrue args h ds K) := by
  intro K hk
  cases args with
  | nil => exact ⟨_, _, _, hk, Nat.le_refl _, fun _ h => h⟩
  | cons a as => exact hk.elim
theorem conTrue_ok {gl : Glob} {f : Nat} (hf : ∀ w, Calls P f #[] w fun e w' => e = .returned (.bool true) ∧ Quiet w w') (args : List AV) (h : H) (ds : List Bool) (K : KV) (hk : conTrue args h ds K) : CallOK P gl f args h K := by
  cases args with
  | cons a as => exact hk.elim
  | nil =>
    intro L w args' U rg hargs r hU
    have : args' = #[] := by
      cases args' with
      | mk l => cases hargs; rfl
    subst this
    refine (hf w).mono ?_
    rintro e w' ⟨rfl, q⟩
    obtain ⟨r', s⟩ := q.rh r
    exact ⟨.bool true, h, ds, L, .bool true, rfl, hk, .bool _, r', s⟩
/-- contracts for none -/
def cfg0 (mode : Bool) (mask : Nat → Nat) : Cfg := ⟨mode, mask, fun _ => none, fun _ _ => none, fun _ => none⟩
theorem cfg0_ok (mode : Bool) (mask : Nat → Nat) : ConOK (cfg0 mode mask) P := ⟨fun f c h => (by cases h), fun f k l h => (by cases h)⟩
theorem cfg0_spl (mode : Bool) (mask : Nat → Nat) : SplCon (cfg0 mode mask) := ⟨fun f c h => (by cases h), fun f k l h => (by cases h)⟩
/-- one contract -/
def cfg1 (mode : Bool) (mask : Nat → Nat) (g : Nat) (c : Con) : Cfg := ⟨mode, mask, fun f => Bool.rec none (some c) (Nat.beq f g), fun _ _ => none, fun _ => none⟩
theorem cfg1_con {mode : Bool} {mask : Nat → Nat} {g : Nat} {c : Con} {f : Nat} {c' : Con} (h : (cfg1 mode mask g c).con f = some c') : f = g ∧ c' = c := by
  have h : (Bool.rec none (some c) (Nat.beq f g) : Option Con) = some c' := h
  cases hb : Nat.beq f g with
  | false => rw [hb] at h; cases h
  | true => rw [hb] at h; cases h; exact ⟨natBeq_iff.1 hb, rfl⟩
theorem cfg1_spl {mode : Bool} {mask : Nat → Nat} {g : Nat} {c : Con} (hc : ∀ args h ds, Spl h (fun K => c args h ds K)) : SplCon (cfg1 mode mask g c) := ⟨fun f c' h => by
  obtain ⟨_, rfl⟩ := cfg1_con h; exact hc, fun f k l h => (by cases h)⟩
theorem cfg1_ok {mode : Bool} {mask : Nat → Nat} {g : Nat} {c : Con} (hc : ∀ args h ds K, c args h ds K → CallOK P (fun _ => none) g args h K) : ConOK (cfg1 mode mask g c) P := ⟨fun f c' h => by
  obtain ⟨rfl, rfl⟩ := cfg1_con h; exact hc, fun f k l h => (by cases h)⟩
end
end
end Go.X

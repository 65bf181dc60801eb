/- Regions that draw their order, I: what an operation looks at, ancestors, the table of a run. -/
import Derived.Test.YtjhbegfkeppcbaaXO
import Derived.Orders
set_option autoImplicit false
set_option linter.unusedVariables false
namespace Go.X
noncomputable section
section
variable {P : Program} {m : Bool}

theorem lmap_congr {α β : Type} {f g : α → β} : ∀ {l : List α}, (∀ x ∈ l, f x = g x) → lmap f l = lmap g l := fun {l} h => by
  rw [lmap_eq, lmap_eq]; exact List.map_congr_left h
/-- an operation looks at its operands alone -/
theorem xop_congr {ρ ρ' : Operand → AV} {op : Op} {h : H} {ds : List Bool} {K : KV} (e : ∀ x ∈ op.operands.toList, ρ x = ρ' x) : xop m P ρ op h ds K = xop m P ρ' op h ds K := by
  cases op <;> simp only [Op.operands, List.mem_cons, List.not_mem_nil, or_false, forall_eq_or_imp, forall_eq] at e <;> simp only [xop]
  case move => rw [e]
  case assign => rw [e]
  case pick => rw [e.1, e.2.1, e.2.2]
  case box => rw [e]
  case build t ps => rw [lmap_congr (g := fun p => (p.1, ρ' p.2)) fun p hp => by rw [e p.2 (List.mem_map.2 ⟨p, hp, rfl⟩)]]
  case buildSlice t n ps => rw [lmap_congr (g := fun p => (p.1, ρ' p.2)) fun p hp => by rw [e p.2 (List.mem_map.2 ⟨p, hp, rfl⟩)]]
  case load => rw [e]
  case store => rw [e.1, e.2]
  case nilCheck => rw [e]
  case binOp => rw [e.1, e.2]
  case unOp => rw [e]
  case convert => rw [e]
  case makeInterface => rw [e]
  case makeFunc fn f c =>
    rw [lmap_congr (l := f.toList) (g := ρ') fun x hx => e x (by simp at hx ⊢; exact .inl hx), lmap_congr (l := c.toList) (g := ρ') fun x hx => e x (by simp at hx ⊢; exact .inr hx)]
  case makeSlice => rw [e.1, e.2]
  case slice t x lo hi mx =>
    have hx : ρ x = ρ' x := e x (by simp)
    have h1 : omap ρ lo = omap ρ' lo := by cases lo with
      | none => rfl
      | some y => simp only [omap]; rw [e y (by simp)]
    have h2 : omap ρ hi = omap ρ' hi := by cases hi with
      | none => rfl
      | some y => simp only [omap]; rw [e y (by simp)]
    have h3 : omap ρ mx = omap ρ' mx := by cases mx with
      | none => rfl
      | some y => simp only [omap]; rw [e y (by simp)]
    rw [hx, h1, h2, h3]
  case fieldAddr => rw [e]
  case field => rw [e]
  case indexAddr => rw [e.1, e.2]
  case index => rw [e.1, e.2]
  case extract => rw [e]
  case call c =>
    cases hc : c.callee with
    | builtin b =>
      have e' : ∀ x ∈ c.args.toList, ρ x = ρ' x := fun x hx => e x (by simp [Call.operands]; exact .inr (by simpa using hx))
      dsimp only
      unfold xblt
      cases b <;> try rfl
      all_goals
        dsimp only
        split <;> try rfl
        split <;> try rfl
      · rename_i y z heq; rw [heq] at e'; rw [e' y (by simp), e' z (by simp)]
      · rename_i x heq; rw [heq] at e'; rw [e' x (by simp)]
    | _ => rfl
theorem xact_congr {call : XCall} {ρ ρ' : Operand → AV} {op : Op} {h : H} {ds : List Bool} {K : KV} (e : ∀ x ∈ op.operands.toList, ρ x = ρ' x) : xact m P call ρ op h ds K = xact m P call ρ' op h ds K := by
  unfold xact
  split
  · rename_i c
    split
    · rename_i f hf
      have e1 : ρ f = ρ' f := e f (by simp [Op.operands, Call.operands, hf])
      have e2 : lmap ρ c.args.toList = lmap ρ' c.args.toList := lmap_congr fun x hx => e x (by simp [Op.operands, Call.operands]; exact .inr (by simpa using hx))
      rw [e1]
      split
      · rename_i g first cap heq
        rw [e2]
      · rfl
    · exact xop_congr e
  · exact xop_congr e

theorem xact_xop {call : XCall} {ρ : Operand → AV} {op : Op} (hq : isQ P op = true ∨ isL op = true ∨ isA op = true) : ∀ h ds K, xact m P call ρ op h ds K = xop m P ρ op h ds K := by
  intro h ds K
  unfold xact
  split
  · rename_i c
    split
    · rename_i f hf
      rcases hq with hq | hq | hq
      · simp [isQ, hf] at hq
      · cases hq
      · cases hq
    · rfl
  · rfl

theorem kindO_q {op : Op} (h : isQ P op = true) : kindO P op = 0 := by simp [kindO, h]
theorem kindO_cases (P : Program) (op : Op) : (isQ P op = true ∧ kindO P op = 0) ∨ (isQ P op = false ∧ isL op = true ∧ kindO P op = 1) ∨ (isQ P op = false ∧ isL op = false ∧ isA op = true ∧ kindO P op = 2) ∨ (isQ P op = false ∧ isL op = false ∧ isA op = false ∧ kindO P op = 3) := by
  unfold kindO
  cases h1 : isQ P op <;> cases h2 : isL op <;> cases h3 : isA op <;> simp

/-! Ancestors -/
theorem bit_testBit (m i : Nat) : bit m i = m.testBit i := by
  unfold bit
  rw [Nat.testBit_eq_decide_div_mod_eq]
  show Nat.beq (m >>> i % 2) 1 = _
  rw [Nat.shiftRight_eq_div_pow]
  cases h : Nat.beq (m / 2 ^ i % 2) 1 with
  | true => exact (decide_eq_true (natBeq_iff.1 h)).symm
  | false => exact (decide_eq_false fun e => by rw [natBeq_iff.2 e] at h; cases h).symm
theorem bit_maskP_go {acc : List Nat} {j : Nat} : ∀ {l : List Nat} {s : Nat}, bit (l.foldl (fun s e => s ||| 2 ^ e ||| (lget acc e).getD 0) s) j = true → bit s j = true ∨ ∃ e ∈ l, e = j ∨ ∃ m, lget acc e = some m ∧ bit m j = true
  | [], s, h => .inl h
  | e :: l, s, h => by
    rw [List.foldl_cons] at h
    rcases bit_maskP_go h with h | ⟨e', a, b⟩
    · rw [bit_testBit, Nat.testBit_or, Nat.testBit_or, Nat.testBit_two_pow] at h
      simp only [Bool.or_eq_true, decide_eq_true_eq] at h
      rcases h with (h | h) | h
      · exact .inl (by rw [bit_testBit]; exact h)
      · exact .inr ⟨e, by simp, .inl h⟩
      · refine .inr ⟨e, by simp, .inr ?_⟩
        cases hg : lget acc e with
        | none => rw [hg] at h; simp at h
        | some m => rw [hg] at h; exact ⟨m, rfl, by rw [bit_testBit]; exact h⟩
    · exact .inr ⟨e', by simp [a], b⟩
/-- each mask holds what stands before, by what stands before -/
theorem ancL_spec : ∀ (l : List Oper) (acc : List Nat) (pre : List Oper), acc.length = pre.length →
    (∀ i o m, pre[i]? = some o → acc[i]? = some m → ∀ j, bit m j = true → ∃ e ∈ preds o, e = j ∨ (e < i ∧ ∃ m', acc[e]? = some m' ∧ bit m' j = true)) →
    ∀ i o m, (pre ++ l)[i]? = some o → (ancL l acc)[i]? = some m → ∀ j, bit m j = true → ∃ e ∈ preds o, e = j ∨ (e < i ∧ ∃ m', (ancL l acc)[e]? = some m' ∧ bit m' j = true)
  | [], acc, pre, hl, hp, i, o, m, ho, hm, j, hj => hp i o m (by simpa using ho) hm j hj
  | x :: l, acc, pre, hl, hp, i, o, m, ho, hm, j, hj => by
    refine ancL_spec l (acc ++ [maskP acc x]) (pre ++ [x]) (by simp [hl]) ?_ i o m (by simpa using ho) hm j hj
    intro i o m ho hm j hj
    by_cases hi : i < pre.length
    · rw [List.getElem?_append_left hi] at ho
      rw [List.getElem?_append_left (by omega)] at hm
      obtain ⟨e, a, b⟩ := hp i o m ho hm j hj
      refine ⟨e, a, b.imp id fun ⟨c, m', d, f⟩ => ⟨c, m', ?_, f⟩⟩
      rw [List.getElem?_append_left (by omega)]; exact d
    · have hi2 : i = pre.length := by
        have := (List.getElem?_eq_some_iff.1 ho).1
        simp at this; omega
      subst hi2
      rw [List.getElem?_append_right (by omega)] at ho
      rw [← hl, List.getElem?_append_right (by omega)] at hm
      simp at ho hm
      subst ho hm
      rcases bit_maskP_go hj with h | ⟨e, a, b⟩
      · simp [bit_testBit] at h
      · refine ⟨e, a, b.imp id fun ⟨m', d, f⟩ => ?_⟩
        rw [lget_eq] at d
        have := (List.getElem?_eq_some_iff.1 d).1
        refine ⟨by omega, m', ?_, f⟩
        rw [List.getElem?_append_left this]; exact d
/-- what is closed under what must stand before holds the ancestors -/
theorem an_closed {ops : List Oper} {done : Nat → Prop} (hc : ∀ i o, ops[i]? = some o → done i → ∀ e ∈ preds o, done e) : ∀ (i j : Nat) (o : Oper), ops[i]? = some o → (∀ e ∈ preds o, done e) → an (ancL ops []) j i = true → done j := by
  intro i
  induction i using Nat.strongRecOn with
  | _ i ih =>
    intro j o ho hp hj
    unfold an at hj
    rw [lget_eq] at hj
    cases hm : (ancL ops [])[i]? with
    | none => rw [hm] at hj; simp [bit_testBit] at hj
    | some m =>
      rw [hm] at hj
      obtain ⟨e, a, b⟩ := ancL_spec ops [] [] rfl (by simp) i o m (by simpa using ho) hm j hj
      rcases b with rfl | ⟨hlt, m', hm', hb⟩
      · exact hp _ a
      · have hde := hp e a
        have he : e < ops.length := by have := (List.getElem?_eq_some_iff.1 ho).1; omega
        refine ih e hlt j _ (List.getElem?_eq_getElem he) (hc e _ (List.getElem?_eq_getElem he) hde) ?_
        unfold an
        rw [lget_eq, hm']; exact hb

/-! The table of a run -/
structure St where
  loc : Lo
  h : H
  ds : List Bool
  rl : RLs
structure Ent where
  i : Nat
  o : Oper
  s : St
  b : Bool
  v : AV
  t : St
structure EntOK (m : Bool) (P : Program) (call : XCall) (n : Nat) (env : Env) (all : List Oper) (anc : List Nat) (e : Ent) : Prop where
  wants : ∀ K' : Bool → Prop, K' e.b → wants all e.s.loc env e.o.guard K'
  dst : ∀ d, e.o.dst = some d → d < n
  loc : e.t.loc = putD e.o.dst e.v e.s.loc
  off : e.b = false → e.v = .tup [] ∧ e.t.h = e.s.h ∧ e.t.rl = e.s.rl
  act : e.b = true → ∀ K' : KV, K' e.v e.t.h e.t.ds → xact m P call (opd e.s.loc env) e.o.op e.s.h e.s.ds K'
  next : e.s.h.next ≤ e.t.h.next
  q : e.b = true → kindO P e.o.op = 0 → e.t.h = e.s.h ∧ ∀ h (K' : KV), K' e.v h e.t.ds → xop m P (opd e.s.loc env) e.o.op h e.s.ds K'
  l : e.b = true → kindO P e.o.op = 1 → e.t.h = e.s.h ∧ ∃ t a, e.o.op = .load t a ∧ (e.i, t, opd e.s.loc env a, e.v) ∈ e.t.rl ∧ ∀ K' : KV, K' e.v e.s.h e.t.ds → xload m P t (opd e.s.loc env a) e.s.h e.s.ds K'
  a : e.b = true → kindO P e.o.op = 2 → ∃ k mv, Names mv ∧ e.v = mv e.s.h.next ∧ e.t.h = hnew e.s.h k ∧ ∀ h (K' : KV), K' (mv h.next) (hnew h k) e.t.ds → xop m P (opd e.s.loc env) e.o.op h e.s.ds K'
  rl : ∀ x ∈ e.s.rl, x ∈ e.t.rl
  agn : e.b = true → kindO P e.o.op = 3 → ∀ x ∈ e.s.rl, an anc x.1 e.i = false → ∃ ds', ∀ K' : KV, K' x.2.2.2 e.t.h ds' → xload m P x.2.1 x.2.2.1 e.t.h e.t.ds K'
def Link (es : List Ent) (s t : St) : Prop := match es with
  | [] => s = t
  | e :: es => e.s = s ∧ Link es e.t t

theorem bandT {a b : Bool} (h : Bool.and a b = true) : a = true ∧ b = true := by cases a <;> cases b <;> first | exact ⟨rfl, rfl⟩ | cases h
theorem recT {x y : Bool} (h : (Bool.rec (Bool.not y) y x : Bool) = true) : x = y := by cases x <;> cases y <;> first | rfl | cases h
theorem flatEq_eq {a b : AV} (h : flatEq a b = true) : a = b := by
  unfold flatEq at h
  split at h <;> try exact Bool.noConfusion h
  all_goals split at h <;> try exact Bool.noConfusion h
  · rename_i x _ _ y; rw [recT h]
  · rename_i k n _ k' n'
    obtain ⟨h1, h2⟩ := bandT h
    rw [eqI_eq] at h2
    rw [kind_num h1, of_decide_eq_true (p := n = n') (by simpa using h2)]
  · obtain ⟨h1, h2⟩ := bandT h
    rw [natBeq_iff.1 h1, natBeq_iff.1 h2]
  · rfl
  · obtain ⟨h1, h2⟩ := bandT h
    rw [natBeq_iff.1 h1, natBeq_iff.1 h2]
  · rfl
  · rename_i i o l c e s _ i' o' l' c' e' s'
    obtain ⟨h1, h⟩ := bandT h
    obtain ⟨h2, h⟩ := bandT h
    obtain ⟨h3, h⟩ := bandT h
    obtain ⟨h4, h⟩ := bandT h
    obtain ⟨h5, h6⟩ := bandT h
    rw [natBeq_iff.1 h1, natBeq_iff.1 h2, natBeq_iff.1 h3, natBeq_iff.1 h4, natBeq_iff.1 h6, recT h5]
  · rfl
  · rw [natBeq_iff.1 h]
  · rfl
  · rfl
  · rw [natBeq_iff.1 h]
theorem flatEqs_eq : ∀ {as bs : List AV}, flatEqs as bs = true → as = bs
  | [], [], _ => rfl
  | [], b :: bs, h => Bool.noConfusion h
  | a :: as, [], h => Bool.noConfusion h
  | a :: as, b :: bs, h => by
    have h : Bool.and (flatEq a b) (flatEqs as bs) = true := h
    obtain ⟨h1, h2⟩ := bandT h
    rw [flatEq_eq h1, flatEqs_eq h2]
theorem avEq_eq {a b : AV} (h : avEq a b = true) : a = b := by
  unfold avEq at h
  split at h
  · split at h <;> try exact Bool.noConfusion h
    rw [flatEqs_eq h]
  · split at h <;> try exact Bool.noConfusion h
    obtain ⟨h1, h⟩ := bandT h
    obtain ⟨h2, h3⟩ := bandT h
    rw [natBeq_iff.1 h1, flatEqs_eq h2, flatEqs_eq h3]
  · exact flatEq_eq h
theorem sameV_eq {u v : AV} {K : Prop} (h : sameV m u v K) : u = v := by
  cases m with
  | true => exact h.1
  | false =>
    have h : (Bool.rec False K (avEq u v) : Prop) := h
    cases hb : avEq u v with
    | true => exact avEq_eq hb
    | false => rw [hb] at h; exact h.elim
theorem again_spec {anc : List Nat} {i : Nat} {h : H} {ds : List Bool} : ∀ {rl : RLs} {K : Prop}, again m P anc i h ds rl K →
    K ∧ ∀ x ∈ rl, an anc x.1 i = false → ∃ ds', ∀ K' : KV, K' x.2.2.2 h ds' → xload m P x.2.1 x.2.2.1 h ds K'
  | [], K, hk => ⟨hk, by simp⟩
  | y :: rl, K, hk => by
    have hk : (Bool.rec (xload m P y.2.1 y.2.2.1 h ds fun u _ _ => sameV m u y.2.2.2 (again m P anc i h ds rl K)) (again m P anc i h ds rl K) (an anc y.1 i) : Prop) := hk
    cases hb : an anc y.1 i with
    | true =>
      rw [hb] at hk
      obtain ⟨a, b⟩ := again_spec hk
      refine ⟨a, fun x hx ha => ?_⟩
      rcases List.mem_cons.1 hx with rfl | hx
      · rw [hb] at ha; cases ha
      · exact b x hx ha
    | false =>
      rw [hb] at hk
      obtain ⟨u, ds', e1, e2⟩ := l_load _ hk
      have := sameV_eq e1
      obtain ⟨a, b⟩ := again_spec (sameV_split e1).1
      refine ⟨a, fun x hx ha => ?_⟩
      rcases List.mem_cons.1 hx with rfl | hx
      · exact ⟨ds', fun K' hk' => e2 K' (this ▸ hk')⟩
      · exact b x hx ha
theorem mem_noteL {op : Op} {i : Nat} {ρ : Operand → AV} {v : AV} {rl : RLs} {x : Nat × TypeId × AV × AV} (h : x ∈ rl) : x ∈ noteL op i ρ v rl := by
  unfold noteL; split
  · exact List.mem_cons_of_mem _ h
  · exact h
theorem xdr_tab {call : XCall} (hs : SplCall call) {n : Nat} {env : Env} {all : List Oper} {anc : List Nat} : ∀ (its : List (Nat × Oper)) (s : St) (K : Lo → H → List Bool → Prop),
    xdr m P call n env all anc its s.loc s.h s.ds s.rl K →
    ∃ es t, es.map (fun e => (e.i, e.o)) = its ∧ Link es s t ∧ (∀ e ∈ es, EntOK m P call n env all anc e) ∧ K t.loc t.h t.ds
  | [], s, K, hk => ⟨[], s, rfl, rfl, by simp, hk⟩
  | x :: rest, s, K, hk => by
    have hk : wants all s.loc env x.2.guard (fun b => Bool.rec
      (putL n x.2.dst (.tup []) s.loc fun loc => xdr m P call n env all anc rest loc s.h s.ds s.rl K)
      (xact m P call (opd s.loc env) x.2.op s.h s.ds fun v h ds => putL n x.2.dst v s.loc fun loc' =>
        Bool.rec (xdr m P call n env all anc rest loc' h ds (noteL x.2.op x.1 (opd s.loc env) v s.rl) K) (again m P anc x.1 h ds s.rl (xdr m P call n env all anc rest loc' h ds s.rl K)) (Nat.beq (kindO P x.2.op) 3)) b) := hk
    obtain ⟨b, hk, back⟩ := wants_split hk
    cases b with
    | false =>
      obtain ⟨loc', hk, _, hloc, hdst⟩ := putL_split hk
      obtain ⟨es, t, i1, i2, i3, i4⟩ := xdr_tab hs rest ⟨loc', s.h, s.ds, s.rl⟩ K hk
      refine ⟨⟨x.1, x.2, s, false, .tup [], ⟨loc', s.h, s.ds, s.rl⟩⟩ :: es, t, by simp [i1], ⟨rfl, i2⟩, ?_, i4⟩
      intro e he
      rcases List.mem_cons.1 he with rfl | he
      · exact ⟨back, hdst, hloc, fun _ => ⟨rfl, rfl, rfl⟩, nofun, Nat.le_refl _, nofun, nofun, nofun, fun _ h => h, nofun⟩
      · exact i3 e he
    | true =>
      dsimp only at hk
      have fin : ∀ (v : AV) (h' : H) (ds' : List Bool), (putL n x.2.dst v s.loc fun loc' =>
          Bool.rec (xdr m P call n env all anc rest loc' h' ds' (noteL x.2.op x.1 (opd s.loc env) v s.rl) K) (again m P anc x.1 h' ds' s.rl (xdr m P call n env all anc rest loc' h' ds' s.rl K)) (Nat.beq (kindO P x.2.op) 3)) →
          (∀ loc' rl', (kindO P x.2.op ≠ 3 → rl' = noteL x.2.op x.1 (opd s.loc env) v s.rl) → (kindO P x.2.op = 3 → rl' = s.rl ∧ ∀ y ∈ s.rl, an anc y.1 x.1 = false → ∃ ds2, ∀ K' : KV, K' y.2.2.2 h' ds2 → xload m P y.2.1 y.2.2.1 h' ds' K') →
            (∀ d, x.2.dst = some d → d < n) → loc' = putD x.2.dst v s.loc → (∀ y ∈ s.rl, y ∈ rl') →
            EntOK m P call n env all anc ⟨x.1, x.2, s, true, v, ⟨loc', h', ds', rl'⟩⟩) →
          ∃ es t, es.map (fun e => (e.i, e.o)) = x :: rest ∧ Link es s t ∧ (∀ e ∈ es, EntOK m P call n env all anc e) ∧ K t.loc t.h t.ds := by
        intro v h' ds' hk ok
        obtain ⟨loc', hk, _, hloc, hdst⟩ := putL_split hk
        by_cases h3 : kindO P x.2.op = 3
        · rw [natBeq_iff.2 h3] at hk
          obtain ⟨hk, hag⟩ := again_spec hk
          obtain ⟨es, t, i1, i2, i3, i4⟩ := xdr_tab hs rest ⟨loc', h', ds', s.rl⟩ K hk
          refine ⟨⟨x.1, x.2, s, true, v, ⟨loc', h', ds', s.rl⟩⟩ :: es, t, by simp [i1], ⟨rfl, i2⟩, ?_, i4⟩
          intro e he
          rcases List.mem_cons.1 he with rfl | he
          · exact ok _ _ (fun h => absurd h3 h) (fun _ => ⟨rfl, hag⟩) hdst hloc fun _ h => h
          · exact i3 e he
        · have hb : Nat.beq (kindO P x.2.op) 3 = false := by
            cases hb : Nat.beq (kindO P x.2.op) 3 with
            | false => rfl
            | true => exact absurd (natBeq_iff.1 hb) h3
          rw [hb] at hk
          obtain ⟨es, t, i1, i2, i3, i4⟩ := xdr_tab hs rest ⟨loc', h', ds', noteL x.2.op x.1 (opd s.loc env) v s.rl⟩ K hk
          refine ⟨⟨x.1, x.2, s, true, v, ⟨loc', h', ds', noteL x.2.op x.1 (opd s.loc env) v s.rl⟩⟩ :: es, t, by simp [i1], ⟨rfl, i2⟩, ?_, i4⟩
          intro e he
          rcases List.mem_cons.1 he with rfl | he
          · exact ok _ _ (fun _ => rfl) (fun h => absurd h h3) hdst hloc fun _ h => mem_noteL h
          · exact i3 e he
      rcases kindO_cases P x.2.op with ⟨hq, hn⟩ | ⟨_, hq, hn⟩ | ⟨_, _, hq, hn⟩ | ⟨_, _, _, hn⟩
      · rw [xact_xop (.inl hq)] at hk
        obtain ⟨v, ds', hk, all'⟩ := xop_q hq _ _ _ hk
        exact fin v _ ds' hk fun loc' rl' r1 r2 d1 d2 d3 => ⟨back, d1, d2, nofun, fun _ K' hk' => by rw [xact_xop (.inl hq)]; exact all' _ K' hk', Nat.le_refl _,
          fun _ _ => ⟨rfl, all'⟩, fun _ h => (by rw [hn] at h; cases h), fun _ h => (by rw [hn] at h; cases h), d3, fun _ h => (by rw [hn] at h; cases h)⟩
      · rw [xact_xop (.inr (.inl hq))] at hk
        cases ho : x.2.op <;> rw [ho] at hq <;> try exact Bool.noConfusion hq
        rename_i t a
        have lk : ∀ K', xop m P (opd s.loc env) x.2.op s.h s.ds K' = xload m P t (opd s.loc env a) s.h s.ds K' := fun K' => by rw [ho]; rfl
        rw [lk] at hk
        obtain ⟨v, ds', hk, all'⟩ := l_load _ hk
        exact fin v _ ds' hk fun loc' rl' r1 r2 d1 d2 d3 => ⟨back, d1, d2, nofun, fun _ K' hk' => by dsimp only; rw [ho, xact_xop (.inr (.inl rfl))]; exact all' K' hk', Nat.le_refl _,
          fun _ h => (by rw [hn] at h; cases h), fun _ _ => ⟨rfl, t, a, ho, by dsimp only; rw [r1 (by rw [hn]; decide), ho]; exact List.mem_cons_self, all'⟩, fun _ h => (by rw [hn] at h; cases h), d3, fun _ h => (by rw [hn] at h; cases h)⟩
      · rw [xact_xop (.inr (.inr hq))] at hk
        obtain ⟨k, mv, ds', nm, hk, all'⟩ := xop_a hq _ _ _ hk
        exact fin _ _ ds' hk fun loc' rl' r1 r2 d1 d2 d3 => ⟨back, d1, d2, nofun, fun _ K' hk' => by rw [xact_xop (.inr (.inr hq))]; exact all' _ K' hk', Nat.le_succ _,
          fun _ h => (by rw [hn] at h; cases h), fun _ h => (by rw [hn] at h; cases h), fun _ _ => ⟨k, mv, nm, rfl, rfl, all'⟩, d3, fun _ h => (by rw [hn] at h; cases h)⟩
      · obtain ⟨v, h', ds', hk, le, all'⟩ := xact_spl hs _ _ _ _ _ hk
        exact fin _ _ ds' hk fun loc' rl' r1 r2 d1 d2 d3 => ⟨back, d1, d2, nofun, fun _ K' hk' => all' K' hk', le,
          fun _ h => (by rw [hn] at h; cases h), fun _ h => (by rw [hn] at h; cases h), fun _ h => (by rw [hn] at h; cases h), d3, fun _ _ => (r2 hn).2⟩
end
end
end Go.X

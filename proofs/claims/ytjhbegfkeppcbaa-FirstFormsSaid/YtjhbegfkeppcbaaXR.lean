/- Regions that draw their order, III: whatever the order, it comes to what the executor says. -/
import Derived.Test.YtjhbegfkeppcbaaXQ
set_option autoImplicit false
set_option linter.unusedVariables false
set_option linter.unusedSectionVars false
namespace Go.X
noncomputable section
section
variable {P : Program} {m : Bool} {call : XCall} {n : Nat} {env : Env} {ops : Array Oper} {es : List Ent} {s0 sF : St}

/-- what stands fast of a region's table -/
structure Stat (m : Bool) (P : Program) (call : XCall) (n : Nat) (env : Env) (ops : Array Oper) (es : List Ent) (s0 sF : St) : Prop where
  link : Link es s0 sF
  loc0 : s0.loc = []
  ok : ∀ e ∈ es, EntOK m P call n env ops.toList (ancL ops.toList []) e
  get : ∀ e ∈ es, ops.toList[e.i]? = some e.o
  pair : ∀ x e, Before es x e → okPair P ops.toList (ancL ops.toList []) x.i e.i x.o e.o = true ∧ x.i ≠ e.i
  pre : ∀ pre e post, es = pre ++ e :: post → ∀ p ∈ preds e.o, ∃ x ∈ pre, x.i = p
  all : ∀ i, i < ops.size → ∃ e ∈ es, e.i = i

theorem ok_pair {anc : List Nat} {all : List Oper} {j i : Nat} {oj oi : Oper} (h : okPair P all anc j i oj oi = true) :
    (an anc j i = true ∨ ((∀ t, oj.dst = some t → t ∉ looks all oi) ∧ (∀ t, oi.dst = some t → t ∉ looks all oj) ∧ (kindO P oi.op = 3 → kindO P oj.op ≠ 3 ∧ kindO P oj.op ≠ 2) ∧ (kindO P oi.op = 1 → kindO P oj.op ≠ 3))) ∧
    ∀ t, oi.dst = some t → oj.dst ≠ some t := by
  unfold okPair at h
  simp only [Bool.and_eq_true, Bool.or_eq_true] at h
  obtain ⟨h1, h2⟩ := h
  constructor
  · rcases h1 with h | ⟨⟨⟨a, b⟩, c⟩, d⟩
    · exact .inl h
    · refine .inr ⟨fun t ht => ?_, fun t ht => ?_, fun hk => ?_, fun hk => ?_⟩
      · rw [ht] at a; simpa using a
      · rw [ht] at b; simpa using b
      · simp [hk] at c; exact c
      · simp [hk] at d; exact d
  · intro t ht
    rw [ht] at h2; simpa using h2

theorem hnew_get (h : H) (k : Blk) : (hnew h k).b.get h.next = some k := by simp only [hnew]; exact T.get_set_same _ _
variable (S : Stat m P call n env ops es s0 sF)
include S
theorem Stat.uniq {x y : Ent} (hx : x ∈ es) (hy : y ∈ es) (h : x.i = y.i) : x = y := by
  rcases trich hx hy with e | b | b
  · exact e
  · exact absurd h (S.pair _ _ b).2
  · exact absurd h.symm (S.pair _ _ b).2
theorem Stat.uniqW {x y : Ent} (hx : x ∈ es) (hy : y ∈ es) {t : Nat} (h1 : x.o.dst = some t) (h2 : y.o.dst = some t) : x = y := by
  rcases trich hx hy with e | b | b
  · exact e
  · exact absurd h1 ((ok_pair (S.pair _ _ b).1).2 t h2)
  · exact absurd h2 ((ok_pair (S.pair _ _ b).1).2 t h1)

/-- done so far: no operation ahead of those that must stand ahead of it -/
def Closed (ops : Array Oper) (done : Nat → Prop) : Prop := ∀ i o, ops.toList[i]? = some o → done i → ∀ p ∈ preds o, done p
theorem Stat.anc {done : Nat → Prop} (hc : Closed ops done) {x e : Ent} (he : e ∈ es) (hp : done e.i ∨ ∀ p ∈ preds e.o, done p) (h : an (ancL ops.toList []) x.i e.i = true) : done x.i :=
  an_closed hc e.i x.i e.o (S.get e he) (hp.elim (fun h => hc _ _ (S.get e he) h) id) h

structure Slots (es : List Ent) (done : Nat → Prop) (env : Env) (L : LM) (a : Act) : Prop where
  wr : ∀ e ∈ es, ∀ t, e.o.dst = some t → done e.i → RV L e.v (a.tmps.getD t undef)
  no : ∀ t, (∀ e ∈ es, e.o.dst = some t → ¬ done e.i) → RV L (eget env t) (a.tmps.getD t undef)
theorem Stat.put {done : Nat → Prop} {L L' : LM} {a : Act} (sl : Slots es done env L a) {e : Ent} (he : e ∈ es) (hd : ¬ done e.i) (x : Ext L L') {v' : Value} (hv : RV L' e.v v') (hn : a.tmps.size = n) :
    Slots es (fun j => done j ∨ j = e.i) env L' (a.put e.o.dst v') := by
  have get : ∀ t, (a.put e.o.dst v').tmps.getD t undef = if e.o.dst = some t then v' else a.tmps.getD t undef := by
    intro t
    cases hdst : e.o.dst with
    | none => simp [Act.put]
    | some d =>
      rw [getD_put a d v' t (by rw [hn]; exact (S.ok e he).dst d hdst)]
      by_cases h : d = t <;> simp [h]
  constructor
  · intro y hy t ht hdn
    rw [get t]
    by_cases h : e.o.dst = some t
    · rw [if_pos h, S.uniqW hy he ht h]; exact hv
    · rw [if_neg h]
      rcases hdn with hdn | hdn
      · exact (sl.wr y hy t ht hdn).mono x
      · have := S.uniq hy he hdn
        subst this
        exact absurd ht h
  · intro t hno
    rw [get t, if_neg fun h => hno e he h (.inr rfl)]
    exact (sl.no t fun y hy hyt hdn => hno y hy hyt (.inl hdn)).mono x
theorem Stat.read {done : Nat → Prop} (hc : Closed ops done) {L : LM} {a : Act} (sl : Slots es done env L a) {e : Ent} (he : e ∈ es) (hd : ¬ done e.i) (hp : ∀ p ∈ preds e.o, done p)
    {t : Nat} (ht : t ∈ looks ops.toList e.o) : RV L (look e.s.loc env t) (a.tmps.getD t undef) := by
  obtain ⟨pre, post, hs⟩ := List.append_of_mem he
  have hl := S.link
  rw [hs] at hl
  obtain ⟨u, h1, h2, h3⟩ := link_app.1 hl
  subst h2
  rcases link_look (x := t) h1 fun x hx => S.ok x (by rw [hs]; simp [hx]) with ⟨x, a1, a2, a3⟩ | ⟨a1, a2⟩
  · rw [a3]
    have hx : x ∈ es := by rw [hs]; simp [a1]
    refine sl.wr x hx t a2 ?_
    rcases (ok_pair (S.pair x e ⟨pre, post, hs, a1⟩).1).1 with h | h
    · exact S.anc hc he (.inr hp) h
    · exact absurd ht (h.1 t a2)
  · rw [a2, S.loc0, look_nil]
    refine sl.no t fun x hx hxt hdn => ?_
    rw [hs] at hx
    rcases List.mem_append.1 hx with hx | hx
    · exact a1 x hx hxt
    · rcases List.mem_cons.1 hx with rfl | hx
      · exact hd hdn
      · have hb : Before es e x := before_app (xs := pre ++ [e]) (ys := post) (by rw [hs]; simp) (by simp) hx
        rcases (ok_pair (S.pair e x hb).1).1 with h | h
        · exact hd (S.anc hc hb.mem.2 (.inl hdn) h)
        · exact absurd ht (h.2.1 t hxt)
omit S

theorem tmp_looks {o : Oper} {t : Nat} (h : .tmp t ∈ o.op.operands.toList) : t ∈ looks ops.toList o := by
  unfold looks tmpsOf
  exact List.mem_append_left _ (List.mem_filterMap.2 ⟨_, h, rfl⟩)
theorem grd_looks {o og : Oper} {g : Nat} {b : Bool} {d : Nat} (h : o.guard = some (g, b)) (hg : ops.toList[g]? = some og) (hd : og.dst = some d) : d ∈ looks ops.toList o := by
  unfold looks
  refine List.mem_append_right _ ?_
  simp only [h, lget_eq, hg, hd]; simp
/-- what the operands are, and nothing of what is no operand -/
def only (op : Op) (ρ : Operand → AV) : Operand → AV := open Classical in fun x => if x ∈ op.operands.toList then ρ x else .any
theorem only_eq {op : Op} {ρ : Operand → AV} : ∀ x ∈ op.operands.toList, only op ρ x = ρ x := fun x h => by unfold only; rw [if_pos h]
theorem only_rv {L : LM} {o : Oper} {loc : Lo} {env : Env} {a : Act} (h : ∀ t, t ∈ looks ops.toList o → RV L (look loc env t) (a.tmps.getD t undef)) (x : Operand) : RV L (only o.op (opd loc env) x) (a.eval x) := by
  unfold only
  split
  · rename_i hx
    cases x with
    | tmp t => exact h t (tmp_looks hx)
    | const v => exact rv_ofV L v
    | global g => exact .any _
    | func f => exact .fn (.func f) [] [] #[] #[] .nil .nil
  · exact .any _
theorem wants_soundL {loc : Lo} {env : Env} {g : Option (Nat × Bool)} {K : Bool → Prop} (hk : wants ops.toList loc env g K)
    {L : LM} {a : Act} {o : Oper} (ho : o.guard = g) (r : ∀ j b oj d, g = some (j, b) → ops.toList[j]? = some oj → oj.dst = some d → RV L (look loc env d) (a.tmps.getD d undef)) :
    ∃ b, K b ∧ Region.wanted o (yielded ops a.tmps) = b := by
  unfold wants at hk
  unfold Region.wanted
  rw [ho]
  split at hk
  · exact ⟨true, hk, rfl⟩
  · rename_i j want
    split at hk <;> try exact hk.elim
    rename_i oj hj
    rw [lget_eq] at hj
    have hj' := hj
    have hj : ops[j]? = some oj := by simpa using hj
    split at hk <;> try exact hk.elim
    rename_i d hd
    have hr := r j want oj d rfl hj' hd
    have hy : ∀ v, a.tmps.getD d undef = v → yielded ops a.tmps j = (match v with | .bool b => some b | _ => none) ∨ (a.tmps[d]? = none) := by
      intro v hv
      cases ht : a.tmps[d]? with
      | none => exact .inr rfl
      | some u =>
        left
        have : a.tmps.getD d undef = u := by simp [Array.getD_eq_getD_getElem?, ht]
        rw [this] at hv; subst hv
        simp [yielded, hj, hd, ht]
        cases u <;> rfl
    split at hk <;> try exact hk.elim
    · rename_i b hb
      rw [hb] at hr
      refine ⟨_, hk, ?_⟩
      generalize hg : a.tmps.getD d undef = v at hr
      cases hr
      rcases hy _ hg with e | e
      · show (yielded ops a.tmps j == some want) = _
        rw [e]; cases b <;> cases want <;> rfl
      · simp [Array.getD_eq_getD_getElem?, e, undef] at hg
    · rename_i vs hb
      rw [hb] at hr
      refine ⟨_, hk, ?_⟩
      generalize hg : a.tmps.getD d undef = v at hr
      cases hr
      rcases hy _ hg with e | e
      · show (yielded ops a.tmps j == some want) = _
        rw [e]; rfl
      · simp [yielded, hj, hd, e]

/-- what holds while a region runs -/
structure Inv (P : Program) (n : Nat) (env : Env) (ops : Array Oper) (es : List Ent) (s0 sF : St) (L0 : LM) (w0 : World) (D : List Deferred) (done : Nat → Prop) (L : LM) (es1 es2 : List Ent) (mid : St) (a : Act) (w : World) : Prop where
  split : es = es1 ++ es2
  l1 : Link es1 s0 mid
  l2 : Link es2 mid sF
  last : es1 = [] ∨ ∃ pre e, es1 = pre ++ [e] ∧ e.b = true ∧ kindO P e.o.op = 3 ∧ done e.i
  no2 : ∀ e ∈ es2, e.b = true → kindO P e.o.op = 3 → ¬ done e.i
  mm : Mid L0 s0.h w0 sF.h.next L mid.h w
  pend : ∀ e ∈ es2, e.b = true → kindO P e.o.op = 2 → done e.i → ∀ k, e.t.h = hnew e.s.h k → Pend L w0.heap.size w e.s.h.next k
  nn : ∀ i p, L i = some p → mid.h.next ≤ i → i < sF.h.next → ∃ e ∈ es2, e.b = true ∧ kindO P e.o.op = 2 ∧ done e.i ∧ i = e.s.h.next
  slot : Slots es done env L a
  size : a.tmps.size = n
  defers : a.defers = D
  closed : Closed ops done

section
variable {L0 L : LM} {w0 w : World} {D : List Deferred} {done : Nat → Prop} {es1 es2 : List Ent} {mid : St} {a : Act}

theorem put_size (a : Act) (d : Option Nat) (v : Value) : (a.put d v).tmps.size = a.tmps.size ∧ (a.put d v).defers = a.defers := by cases d <;> simp [Act.put]
theorem closed_add (hc : Closed ops done) {e : Ent} {o : Oper} (hg : ops.toList[e.i]? = some o) (hp : ∀ p ∈ preds o, done p) : Closed ops (fun j => done j ∨ j = e.i) := by
  intro i o' ho hd p hpp
  rcases hd with hd | rfl
  · exact .inl (hc i o' ho hd p hpp)
  · rw [hg] at ho; cases ho; exact .inl (hp p hpp)

/-- blocks of a stretch of the table -/
theorem walk_seg {anc : List Nat} {all : List Oper} {N : Nat} {h0 : H} : ∀ {seg : List Ent} {s u : St}, Link seg s u → (∀ x ∈ seg, EntOK m P call n env all anc x) → (∀ x ∈ seg, x.b = true → kindO P x.o.op ≠ 3) →
    (∀ x ∈ seg, x.b = true → kindO P x.o.op = 2 → ∀ k, x.t.h = hnew x.s.h k → L x.s.h.next = none ∨ Pend L w0.heap.size w x.s.h.next k) → Mid L0 h0 w0 N L s.h w → Mid L0 h0 w0 N L u.h w
  | [], s, u, hl, ok, hno, hp, M => by cases hl; exact M
  | x :: seg, s, u, hl, ok, hno, hp, M => by
    obtain ⟨rfl, hl⟩ := hl
    refine walk_seg hl (fun y hy => ok y (List.mem_cons_of_mem _ hy)) (fun y hy => hno y (List.mem_cons_of_mem _ hy)) (fun y hy => hp y (List.mem_cons_of_mem _ hy)) ?_
    have o := ok x List.mem_cons_self
    cases hb : x.b with
    | false => rw [(o.off hb).2.1]; exact M
    | true =>
      rcases kindO_cases P x.o.op with ⟨_, hn⟩ | ⟨_, _, hn⟩ | ⟨_, _, _, hn⟩ | ⟨_, _, _, hn⟩
      · rw [(o.q hb hn).1]; exact M
      · rw [(o.l hb hn).1]; exact M
      · obtain ⟨k, mv, _, _, hk, _⟩ := o.a hb hn
        have := hp x List.mem_cons_self hb hn k hk
        rw [hk]
        exact M.addA this
      · exact absurd hn (hno x List.mem_cons_self hb)

variable (S : Stat m P call n env ops es s0 sF) (I : Inv P n env ops es s0 sF L0 w0 D done L es1 es2 mid a w)
include S I

theorem Inv.ok2 : ∀ x ∈ es2, EntOK m P call n env ops.toList (ancL ops.toList []) x := fun x hx => S.ok x (by rw [I.split]; simp [hx])
theorem Inv.ids {x : Ent} (hx : x ∈ es2) : mid.h.next ≤ x.s.h.next ∧ x.t.h.next ≤ sF.h.next := (link_next I.l2 (I.ok2 S)).2 x hx
/-- what is made and is not done is not there -/
theorem Inv.gone {x : Ent} (hx : x ∈ es2) (hb : x.b = true) (hk : kindO P x.o.op = 2) (hd : ¬ done x.i) : L x.s.h.next = none := by
  cases h : L x.s.h.next with
  | none => rfl
  | some p =>
    obtain ⟨h1, h2⟩ := I.ids S hx
    obtain ⟨k, mv, _, _, hk', _⟩ := (I.ok2 S x hx).a hb hk
    have h3 : x.t.h.next = x.s.h.next + 1 := by rw [hk']; rfl
    obtain ⟨y, hy, hyb, hyk, hyd, e⟩ := I.nn _ _ h h1 (by omega)
    obtain ⟨k2, mv2, _, _, hk2, _⟩ := (I.ok2 S y hy).a hyb hyk
    have h4 : y.t.h.next = y.s.h.next + 1 := by rw [hk2]; rfl
    have hx' : x ∈ es := by rw [I.split]; simp [hx]
    have hy' : y ∈ es := by rw [I.split]; simp [hy]
    rcases trich hx' hy' with e' | b | b
    · subst e'; exact absurd hyd hd
    · have := before_next S.link S.ok b; omega
    · have := before_next S.link S.ok b; omega
/-- the heap behind a stretch in which nothing acts -/
theorem Inv.seg {seg post : List Ent} {u : St} (h2 : es2 = seg ++ post) (hl : Link seg mid u) (hno : ∀ x ∈ seg, x.b = true → kindO P x.o.op ≠ 3) : Mid L0 s0.h w0 sF.h.next L u.h w := by
  refine walk_seg hl (fun x hx => I.ok2 S x (by rw [h2]; simp [hx])) hno (fun x hx hb hk k hkk => ?_) I.mm
  have hx2 : x ∈ es2 := by rw [h2]; simp [hx]
  by_cases hdn : done x.i
  · exact .inr (I.pend x hx2 hb hk hdn k hkk)
  · exact .inl (I.gone S hx2 hb hk hdn)

variable {e : Ent} (he : e ∈ es) (hd : ¬ done e.i) (hp : ∀ p ∈ preds e.o, done p)
include he hd hp

/-- a step aside: nothing of the heap in hand changes -/
theorem Inv.aside {L' : LM} {w' : World} {v' : Value} (s : Side sF.h.next L L' mid.h w w') (hv : RV L' e.v v')
    (hact : e.b = true → kindO P e.o.op ≠ 3)
    (hp2 : e ∈ es2 → e.b = true → kindO P e.o.op = 2 → ∀ k, e.t.h = hnew e.s.h k → Pend L' w0.heap.size w' e.s.h.next k)
    (hnone : ∀ i p, L' i = some p → mid.h.next ≤ i → i < sF.h.next → (∃ p, L i = some p) ∨ (e ∈ es2 ∧ e.b = true ∧ kindO P e.o.op = 2 ∧ i = e.s.h.next)) :
    Inv P n env ops es s0 sF L0 w0 D (fun j => done j ∨ j = e.i) L' es1 es2 mid (a.put e.o.dst v') w' where
  split := I.split
  l1 := I.l1
  l2 := I.l2
  last := I.last.imp id fun ⟨pre, x, a, b, c, d⟩ => ⟨pre, x, a, b, c, .inl d⟩
  no2 := fun x hx hb hk hdn => by
    rcases hdn with hdn | hdn
    · exact I.no2 x hx hb hk hdn
    · have := S.uniq (by rw [I.split]; simp [hx]) he hdn
      subst this
      exact hact hb hk
  mm := I.mm.side s
  pend := fun x hx hb hk hdn k hkk => by
    rcases hdn with hdn | hdn
    · exact (I.pend x hx hb hk hdn k hkk).side I.mm.rh s
    · have := S.uniq (by rw [I.split]; simp [hx]) he hdn
      subst this
      exact hp2 hx hb hk k hkk
  nn := fun i p hi h1 h2 => by
    rcases hnone i p hi h1 h2 with ⟨p, h⟩ | ⟨a, b, c, d⟩
    · obtain ⟨x, c1, c2, c3, c4, c5⟩ := I.nn i p h h1 h2
      exact ⟨x, c1, c2, c3, .inl c4, c5⟩
    · exact ⟨e, a, b, c, .inr rfl, d⟩
  slot := S.put I.slot he hd s.ext hv I.size
  size := (put_size _ _ _).1.trans I.size
  defers := (put_size _ _ _).2.trans I.defers
  closed := closed_add I.closed (S.get e he) hp

/-- e does not stand ahead of what has acted last, unless that waits for no e -/
theorem Inv.in2 (hb : e.b = true) (hk : kindO P e.o.op = 3 ∨ kindO P e.o.op = 2) : e ∈ es2 := by
  have h := he
  rw [I.split] at h
  rcases List.mem_append.1 h with h1 | h1
  · rcases I.last with h0 | ⟨pre, x, h2, hb2, hk2, hdn⟩
    · rw [h0] at h1; cases h1
    · have hx : x ∈ es := by rw [I.split, h2]; simp
      rw [h2] at h1
      rcases List.mem_append.1 h1 with h1 | h1
      · have hbe : Before es e x := before_app (xs := pre) (ys := [x] ++ es2) (by rw [I.split, h2, List.append_assoc]) h1 (by simp)
        rcases (ok_pair (S.pair e x hbe).1).1 with h | h
        · exact absurd (S.anc I.closed hx (.inl hdn) h) hd
        · have := h.2.2.1 hk2; omega
      · have : e = x := by simpa using h1
        subst this; exact absurd hdn hd
  · exact h1
/-- nothing acts between what has acted last and what now may run -/
theorem Inv.quiet (hk : kindO P e.o.op = 3 ∨ kindO P e.o.op = 1) {seg post : List Ent} (h2 : es2 = seg ++ e :: post) : ∀ x ∈ seg, x.b = true → kindO P x.o.op ≠ 3 := by
  intro x hx hb hk3
  have hx2 : x ∈ es2 := by rw [h2]; simp [hx]
  have hbe : Before es x e := before_app (xs := es1 ++ seg) (ys := e :: post) (by rw [I.split, h2, List.append_assoc]) (by simp [hx]) (by simp)
  rcases (ok_pair (S.pair x e hbe).1).1 with h | h
  · exact I.no2 x hx2 hb hk3 (S.anc I.closed he (.inr hp) h)
  · rcases hk with hk | hk
    · exact (h.2.2.1 hk).1 hk3
    · exact h.2.2.2 hk hk3

theorem Inv.rd (x : Operand) : RV L (only e.o.op (opd e.s.loc env) x) (a.eval x) := only_rv (fun t ht => S.read I.closed I.slot he hd hp ht) x

theorem Inv.wanted : Region.wanted e.o (yielded ops a.tmps) = e.b := by
  obtain ⟨b, h1, h2⟩ := wants_soundL (K := fun b => b = e.b) ((S.ok e he).wants _ rfl) (L := L) (a := a) rfl fun j b oj d hg hj hdst => S.read I.closed I.slot he hd hp (grd_looks hg hj hdst)
  rw [h2, h1]

/-- one operation more -/
theorem Inv.go {Q : Exit → Act → World → Prop} {K : Act → World → Prop} (hc : CallsOK P call)
    (hK : ∀ L' es1' es2' mid' a' w', Inv P n env ops es s0 sF L0 w0 D (fun j => done j ∨ j = e.i) L' es1' es2' mid' a' w' → K a' w') : wpOp P ops Q e.i K a w := by
  have hg : ops[e.i]? = some e.o := by simpa using S.get e he
  have o := S.ok e he
  unfold wpOp
  simp only [hg, I.wanted S he hd hp]
  cases hb : e.b with
  | false =>
    obtain ⟨hv, _, _⟩ := o.off hb
    refine hK _ _ _ _ _ _ (I.aside S he hd hp (Side.refl I.mm.rh) (by rw [hv]; exact .tup [] #[] .nil) (fun h => by rw [hb] at h; cases h) (fun _ h => by rw [hb] at h; cases h) fun i p h _ _ => .inl ⟨p, h⟩)
  | true =>
    refine .inl ?_
    have plain : ∀ {v' : Value} {w' : World}, Outs ((execOp a.eval e.o).run P w) v' w' → K (a.put e.o.dst v') w' → e.o.wp P a w K Q := by
      intro v' w' h hk
      unfold Oper.wp
      rcases h with h | ⟨h, rfl⟩
      · rw [h]; exact hk
      · rw [h]; exact hk
    rcases kindO_cases P e.o.op with ⟨_, hn⟩ | ⟨_, _, hn⟩ | ⟨_, _, _, hn⟩ | ⟨_, _, _, hn⟩
    · -- computes
      have hx := (o.q hb hn).2 ⟨T.leaf, sF.h.next⟩ (fun v h ds => v = e.v ∧ h = ⟨T.leaf, sF.h.next⟩) ⟨rfl, rfl⟩
      rw [← xop_congr (only_eq (ρ := opd e.s.loc env))] at hx
      obtain ⟨v, h', ds', L', v', w', ⟨rfl, rfl⟩, a2, a3, a4, a5⟩ := xop_sound (L := L) (w := w) (U := sF.h.next) (rh_leaf I.mm.rh fun i h1 h2 => by omega) (fun v h ds hv => by rw [hv.2]; exact Nat.le_refl _) (I.rd S he hd hp) e.o hx
      have hnx := (link_next I.l2 (I.ok2 S)).1
      have sd : Side sF.h.next L L' mid.h w w' := side_of a5 a4 hnx (Nat.le_refl _)
      refine plain a2 (hK _ _ _ _ _ _ (I.aside S he hd hp sd a3 (fun _ => by rw [hn]; decide) (fun _ _ h => by rw [hn] at h; cases h) fun i p h h1 h2 => ?_))
      rcases a5.new i p h with h | ⟨h3, h4, _⟩
      · exact .inl ⟨p, h⟩
      · have h3 : sF.h.next ≤ i := h3
        omega
    · -- looks into memory
      obtain ⟨_, t, x, hop, hrl, hall⟩ := o.l hb hn
      have hrd : RV L (opd e.s.loc env x) (a.eval x) := by
        have := I.rd S he hd hp x
        rwa [only_eq x (by rw [hop]; simp [Op.operands])] at this
      have key : ∃ h ds ds', Mid L0 s0.h w0 sF.h.next L h w ∧ ∀ K' : KV, K' e.v h ds' → xload m P t (opd e.s.loc env x) h ds K' := by
        have h := he
        rw [I.split] at h
        rcases List.mem_append.1 h with h1 | h1
        · rcases I.last with h0 | ⟨pre, y, h2, hb2, hk2, hdn⟩
          · rw [h0] at h1; cases h1
          · have hy : y ∈ es := by rw [I.split, h2]; simp
            rw [h2] at h1
            rcases List.mem_append.1 h1 with h1 | h1
            · have hbe : Before es e y := before_app (xs := pre) (ys := [y] ++ es2) (by rw [I.split, h2, List.append_assoc]) h1 (by simp)
              have hna : an (ancL ops.toList []) e.i y.i = false := by
                cases h : an (ancL ops.toList []) e.i y.i with
                | false => rfl
                | true => exact absurd (S.anc I.closed hy (.inl hdn) h) hd
              have hl1 := I.l1
              rw [h2] at hl1
              obtain ⟨u, l1, l2, l3⟩ := link_app.1 hl1
              subst l2
              have l3 : y.t = mid := l3
              have hin := link_rl l1 (fun z hz => S.ok z (by rw [I.split, h2]; simp [hz])) (.inr ⟨e, h1, hrl⟩)
              obtain ⟨ds2, hx⟩ := (S.ok y hy).agn hb2 hk2 _ hin hna
              rw [l3] at hx
              exact ⟨mid.h, _, ds2, I.mm, hx⟩
            · have : e = y := by simpa using h1
              subst this; exact absurd hdn hd
        · obtain ⟨seg, post, h2⟩ := List.append_of_mem h1
          have hl2 := I.l2
          rw [h2] at hl2
          obtain ⟨u, l1, l2, l3⟩ := link_app.1 hl2
          subst l2
          exact ⟨e.s.h, _, _, I.seg S h2 l1 (I.quiet S he hd hp (.inr hn) h2), hall⟩
      obtain ⟨h, ds, ds', M, hx⟩ := key
      obtain ⟨v, ds2, v', rfl, b2, b3⟩ := xload_ro M.rh hrd (hx (fun v _ _ => v = e.v) rfl)
      refine plain (v' := v') (w' := w) (.inl (by simp [execOp, hop, b2])) (hK _ _ _ _ _ _ (I.aside S he hd hp (Side.refl I.mm.rh) b3 (fun _ => by rw [hn]; decide) (fun _ _ h => by rw [hn] at h; cases h) fun i p h _ _ => .inl ⟨p, h⟩))
    · -- makes
      have h2 := I.in2 S he hd hp hb (.inr hn)
      obtain ⟨k, mv, nm, hv, hk, hall⟩ := o.a hb hn
      obtain ⟨i1, i2⟩ := I.ids S h2
      have hN : e.s.h.next + 1 ≤ sF.h.next := by rw [hk] at i2; exact i2
      have hgone := I.gone S h2 hb hn hd
      have hx := hall ⟨T.leaf, e.s.h.next⟩ (fun v h ds => v = e.v ∧ h = hnew ⟨T.leaf, e.s.h.next⟩ k) ⟨hv.symm, rfl⟩
      rw [← xop_congr (only_eq (ρ := opd e.s.loc env))] at hx
      obtain ⟨v, h', ds', L', v', w', ⟨rfl, rfl⟩, a2, a3, a4, a5⟩ := xop_sound (L := L) (w := w) (U := e.s.h.next + 1)
        (rh_leaf I.mm.rh fun i h1 h2 => by have : i = e.s.h.next := by omega
                                           rw [this]; exact hgone) (fun v h ds hv => by rw [hv.2]; exact Nat.le_refl _) (I.rd S he hd hp) e.o hx
      have sd : Side sF.h.next L L' mid.h w w' := side_of a5 a4 i1 hN
      refine plain a2 (hK _ _ _ _ _ _ (I.aside S he hd hp sd a3 (fun _ => by rw [hn]; decide) (fun _ _ _ k2 hk2 => ?_) fun i p h h1 h2' => ?_))
      · have hkk : k2 = k := hnew_inj (hk2.symm.trans hk)
        subst hkk
        obtain ⟨p, hp'⟩ := nm L' _ v' (hv ▸ a3)
        have hB : w.heap.size ≤ p.B := by
          rcases a5.new _ _ hp' with h | ⟨_, _, h⟩
          · rw [hgone] at h; cases h
          · rcases h with h | ⟨i, kk, q, hi, _⟩
            · exact h
            · exact (leaf_none hi).elim
        refine ⟨p, hp', a4.mem _ _ _ (hnew_get _ _) hp', Nat.le_trans I.mm.size hB, fun j q hj ej => ?_⟩
        rcases a5.new j q hj with h | ⟨h3, h4, _⟩
        · have := I.mm.rh.below _ _ h; omega
        · have h3 : e.s.h.next ≤ j := h3
          have h4 : j < e.s.h.next + 1 := h4
          omega
      · rcases a5.new i p h with h | ⟨h3, h4, _⟩
        · exact .inl ⟨p, h⟩
        · have h3 : e.s.h.next ≤ i := h3
          have h4 : i < e.s.h.next + 1 := h4
          exact .inr ⟨h2, hb, hn, by omega⟩
    · -- acts
      have h2 := I.in2 S he hd hp hb (.inl hn)
      obtain ⟨seg, post, hs⟩ := List.append_of_mem h2
      have hl2 := I.l2
      rw [hs] at hl2
      obtain ⟨u, l1, l2, l3⟩ := link_app.1 hl2
      subst l2
      have M := I.seg S hs l1 (I.quiet S he hd hp (.inl hn) hs)
      obtain ⟨i1, i2⟩ := I.ids S h2
      have kinds : ∀ x, kindO P x.o.op = 2 → x ≠ e := fun x hx h => by subst h; rw [hn] at hx; cases hx
      have hx := o.act hb (fun v h ds => v = e.v ∧ h = e.t.h) ⟨rfl, rfl⟩
      rw [← xact_congr (only_eq (ρ := opd e.s.loc env))] at hx
      have inpost : ∀ x ∈ es2, x ≠ e → e.t.h.next ≤ x.s.h.next → (x.b = true → kindO P x.o.op = 2 → x ∈ post) := by
        intro x hx hne hle hxb hxk
        rw [hs] at hx
        rcases List.mem_append.1 hx with hx | hx
        · have hb' : Before es x e := before_app (xs := es1 ++ seg) (ys := e :: post) (by rw [I.split, hs, List.append_assoc]) (by simp [hx]) (by simp)
          have h3 := before_next S.link S.ok hb'
          have hx2 : x ∈ es2 := by rw [hs]; simp [hx]
          obtain ⟨k, mv, _, _, hk, _⟩ := (I.ok2 S x hx2).a hxb hxk
          have h4 : x.t.h.next = x.s.h.next + 1 := by rw [hk]; rfl
          have := o.next
          omega
        · rcases List.mem_cons.1 hx with rfl | hx
          · exact absurd rfl hne
          · exact hx
      refine xact_sound hc hx (U := e.t.h.next) (fun v h ds hv => by rw [hv.2]; exact Nat.le_refl _) (I.rd S he hd hp) (rh_fresh M.rh fun i h1 h3 => ?_) ?_
      · cases hL : L i with
        | none => rfl
        | some p =>
          obtain ⟨y, hy, hyb, hyk, hyd, rfl⟩ := I.nn i p hL (by omega) (by omega)
          obtain ⟨k2, mv2, _, _, hk2, _⟩ := (I.ok2 S y hy).a hyb hyk
          have h4 : y.t.h.next = y.s.h.next + 1 := by rw [hk2]; rfl
          rcases trich (by rw [I.split]; simp [hy] : y ∈ es) he with e' | b | b
          · exact absurd e' (kinds y hyk)
          · have := before_next S.link S.ok b; omega
          · have := before_next S.link S.ok b; omega
      · rintro v h' ds' L' v' w' ⟨rfl, rfl⟩ q2 q3 q4
        have post2 : ∀ x ∈ post, x ∈ es2 ∧ x ∈ es ∧ x ≠ e ∧ e.t.h.next ≤ x.s.h.next := by
          intro x hx
          have hx2 : x ∈ es2 := by rw [hs]; simp [hx]
          have hxe : x ∈ es := by rw [I.split]; simp [hx2]
          have hb' : Before es e x := before_app (xs := es1 ++ seg ++ [e]) (ys := post) (by rw [I.split, hs]; simp) (by simp) hx
          refine ⟨hx2, hxe, fun h => ?_, before_next S.link S.ok hb'⟩
          subst h; exact (S.pair _ _ hb').2 rfl
        refine hK L' (es1 ++ (seg ++ [e])) post e.t _ _ ⟨by rw [I.split, hs]; simp, ?_, l3, .inr ⟨es1 ++ seg, e, by simp, hb, hn, .inr rfl⟩, ?_, M.step q4 q3 i2, ?_, ?_, S.put I.slot he hd q4.ext q2 I.size,
          (put_size _ _ _).1.trans I.size, (put_size _ _ _).2.trans I.defers, closed_add I.closed (S.get e he) hp⟩
        · exact link_app.2 ⟨mid, I.l1, link_app.2 ⟨e.s, l1, rfl, rfl⟩⟩
        · intro x hx hxb hxk hdn
          obtain ⟨p1, p2, p3, _⟩ := post2 x hx
          rcases hdn with hdn | hdn
          · exact I.no2 x p1 hxb hxk hdn
          · exact p3 (S.uniq p2 he hdn)
        · intro x hx hxb hxk hdn k hkk
          obtain ⟨p1, p2, p3, p4⟩ := post2 x hx
          rcases hdn with hdn | hdn
          · refine (I.pend x p1 hxb hxk hdn k hkk).step M.rh q4 ?_
            cases hgt : e.s.h.b.get x.s.h.next with
            | none => rfl
            | some kk => have := M.rh.live _ _ hgt; have := o.next; omega
          · exact absurd (S.uniq p2 he hdn) p3
        · intro i p hi h1 h3
          rcases q4.new i p hi with h | ⟨_, h, _⟩
          · have := o.next
            obtain ⟨y, hy, hyb, hyk, hyd, hyi⟩ := I.nn i p h (by omega) h3
            exact ⟨y, inpost y hy (kinds y hyk) (by omega) hyb hyk, hyb, hyk, .inl hyd, hyi⟩
          · omega
end

/-! From the plan to the table, and the run -/
theorem nodup_full {l : List Nat} {N : Nat} (hn : l.Nodup) (hl : ∀ x ∈ l, x < N) (hs : l.length = N) (i : Nat) (hi : i < N) : i ∈ l := by
  by_cases h : i ∈ l
  · exact h
  · have := List.Nodup.length_le_of_subset (l₁ := i :: l) (l₂ := List.range N) (List.nodup_cons.2 ⟨h, hn⟩) (fun x hx => by
      rcases List.mem_cons.1 hx with rfl | hx
      · exact List.mem_range.2 hi
      · exact List.mem_range.2 (hl x hx))
    simp at this; omega
theorem okAll_at {all : List Oper} {anc : List Nat} : ∀ {its bef : List (Nat × Oper)}, okAll P all anc bef its = true → ∀ pre x post, its = pre ++ x :: post → okOne P all anc (bef ++ pre) x.1 x.2 = true
  | [], bef, h, pre, x, post, e => by simp at e
  | y :: its, bef, h, pre, x, post, e => by
    simp only [okAll, Bool.and_eq_true] at h
    cases pre with
    | nil => simp at e; obtain ⟨rfl, rfl⟩ := e; simpa using h.1
    | cons z pre =>
      simp at e; obtain ⟨rfl, rfl⟩ := e
      have := okAll_at h.2 pre x post rfl
      simpa using this
theorem itemsOf_get {all : List Oper} : ∀ {pi : List Nat} {its : List (Nat × Oper)}, itemsOf all pi = some its → ∀ x ∈ its, all[x.1]? = some x.2
  | [], its, h, x, hx => by simp [itemsOf] at h; subst h; cases hx
  | i :: pi, its, h, x, hx => by
    simp only [itemsOf, List.mapM_cons] at h
    cases hi : lget all i with
    | none => rw [hi] at h; simp at h
    | some o =>
      rw [hi] at h
      cases hr : itemsOf all pi with
      | none => simp only [itemsOf] at hr; rw [hr] at h; simp at h
      | some r =>
        have hr' := hr
        simp only [itemsOf] at hr; rw [hr] at h
        simp at h; subst h
        rcases List.mem_cons.1 hx with rfl | hx
        · rw [lget_eq] at hi; exact hi
        · exact itemsOf_get hr' x hx
theorem planOf_stat {call : XCall} {n : Nat} {env : Env} {ops : Array Oper} {its : List (Nat × Oper)} (h : planOf P ops.toList = some its) {es : List Ent} {s0 sF : St} (hm : es.map (fun e => (e.i, e.o)) = its)
    (hl : Link es s0 sF) (h0 : s0.loc = []) (ok : ∀ e ∈ es, EntOK m P call n env ops.toList (ancL ops.toList []) e) : Stat m P call n env ops es s0 sF ∧ P.follows .mixedOrders = true := by
  unfold planOf at h
  cases hi : itemsOf ops.toList (canon P ops.toList) with
  | none => rw [hi] at h; cases h
  | some its' =>
    rw [hi] at h
    dsimp only at h
    split at h <;> try (cases h; done)
    rename_i hc
    cases h
    simp only [Bool.and_eq_true] at hc
    obtain ⟨⟨hall, hlen⟩, hmix⟩ := hc
    have get : ∀ e ∈ es, ops.toList[e.i]? = some e.o := fun e he => itemsOf_get hi (e.i, e.o) (by rw [← hm]; exact List.mem_map.2 ⟨e, he, rfl⟩)
    have one : ∀ pre e post, es = pre ++ e :: post → okOne P ops.toList (ancL ops.toList []) (pre.map fun e => (e.i, e.o)) e.i e.o = true := by
      intro pre e post hs
      have := okAll_at hall (pre.map fun e => (e.i, e.o)) (e.i, e.o) (post.map fun e => (e.i, e.o)) (by rw [← hm, hs]; simp)
      simpa using this
    have pair : ∀ x e, Before es x e → okPair P ops.toList (ancL ops.toList []) x.i e.i x.o e.o = true ∧ x.i ≠ e.i := by
      rintro x e ⟨pre, post, hs, hx⟩
      have := one pre e post hs
      simp only [okOne, Bool.and_eq_true, List.all_eq_true] at this
      obtain ⟨⟨h1, _⟩, _⟩ := this
      have := h1 (x.i, x.o) (List.mem_map.2 ⟨x, hx, rfl⟩)
      exact ⟨this.2, by simpa using this.1⟩
    refine ⟨⟨hl, h0, ok, get, pair, ?_, ?_⟩, hmix⟩
    · intro pre e post hs p hp
      have := one pre e post hs
      simp only [okOne, Bool.and_eq_true, List.all_eq_true] at this
      obtain ⟨⟨_, h2⟩, _⟩ := this
      have := h2 p hp
      simp at this
      obtain ⟨x, hx, rfl⟩ := this
      exact ⟨x, hx, rfl⟩
    · intro i hi'
      have hnd : (es.map (·.i)).Nodup := by
        unfold List.Nodup
        rw [List.pairwise_map]
        have : ∀ l : List Ent, (∀ x e, Before l x e → x.i ≠ e.i) → l.Pairwise fun a b => a.i ≠ b.i := by
          intro l
          induction l with
          | nil => intro _; exact .nil
          | cons z l ih => exact fun h => .cons (fun y hy => h z y (.head hy)) (ih fun x e hb => h x e (.cons z hb))
        exact this es fun x e hb => (pair x e hb).2
      have hlen' : (es.map (·.i)).length = ops.size := by
        have : its.length = ops.toList.length := by simpa using hlen
        rw [← hm] at this; simpa using this
      have := nodup_full hnd (fun x hx => by
        obtain ⟨e, he, rfl⟩ := List.mem_map.1 hx
        have := (List.getElem?_eq_some_iff.1 (get e he)).1
        simpa using this) hlen' i hi'
      obtain ⟨e, he, rfl⟩ := List.mem_map.1 this
      exact ⟨e, he, rfl⟩

theorem filter_lt {p q : Nat → Bool} {i : Nat} : ∀ {l : List Nat}, (∀ x ∈ l, q x = true → p x = true) → i ∈ l → p i = true → q i = false → (l.filter q).length < (l.filter p).length
  | x :: l, h, hi, hp, hq => by
    have le : ∀ l : List Nat, (∀ x ∈ l, q x = true → p x = true) → (l.filter q).length ≤ (l.filter p).length := by
      intro l
      induction l with
      | nil => intro _; simp
      | cons y l ih =>
        intro h
        have := ih fun x hx => h x (by simp [hx])
        simp only [List.filter_cons]
        cases hqy : q y with
        | false => cases p y <;> simp <;> omega
        | true => rw [h y (by simp) hqy]; simpa using this
    have ih := filter_lt (l := l) (i := i) fun y hy => h y (by simp [hy])
    have le := le l fun y hy => h y (by simp [hy])
    simp only [List.filter_cons]
    rcases List.mem_cons.1 hi with rfl | hi
    · rw [hp, hq]; simp; omega
    · have ih := ih hi hp hq
      cases hqx : q x with
      | false => cases p x <;> simp <;> omega
      | true => rw [h x (by simp) hqx]; simpa using ih

def isDone (listed : Array Bool) (i : Nat) : Prop := listed.getD i false = true
def left (ops : Array Oper) (listed : Array Bool) : Nat := ((List.range ops.size).filter fun i => !listed.getD i true).length
theorem ready_spec {ops : Array Oper} {listed : Array Bool} (hs : listed.size = ops.size) {i : Nat} : i ∈ Region.ready .any ops listed ↔ ∃ o, ops.toList[i]? = some o ∧ ¬ isDone listed i ∧ ∀ p ∈ preds o, isDone listed p := by
  unfold Region.ready isDone
  simp only [List.mem_filter, List.mem_range, Bool.and_eq_true]
  constructor
  · rintro ⟨hi, h1, h2⟩
    have hg : ops[i]? = some ops[i] := Array.getElem?_eq_getElem hi
    have hl : listed[i]? = some (listed[i]'(by omega)) := Array.getElem?_eq_getElem (by omega)
    refine ⟨ops[i], by simp, ?_, ?_⟩
    · simp [Array.getD_eq_getD_getElem?, hl] at h1 ⊢; exact h1
    · intro p hp
      rw [hg] at h2
      simp only [Option.map_some, Option.getD_some, Array.all_eq_true_iff_forall_mem] at h2
      unfold preds at hp
      obtain ⟨e, he, rfl⟩ := List.mem_map.1 hp
      obtain ⟨he, hb⟩ := List.mem_filter.1 he
      have := h2 e (by simpa using he)
      simpa [hb] using this
  · rintro ⟨o, ho, h1, h2⟩
    have hi : i < ops.size := by have := (List.getElem?_eq_some_iff.1 ho).1; simpa using this
    have hg : ops[i]? = some o := by simpa using ho
    have hl : listed[i]? = some (listed[i]'(by omega)) := Array.getElem?_eq_getElem (by omega)
    refine ⟨hi, ?_, ?_⟩
    · simp [Array.getD_eq_getD_getElem?, hl] at h1 ⊢; exact h1
    · rw [hg]
      simp only [Option.map_some, Option.getD_some, Array.all_eq_true_iff_forall_mem]
      intro e he
      cases hb : Region.binds .any e with
      | false => simp
      | true =>
        have := h2 e.on (by unfold preds; exact List.mem_map.2 ⟨e, List.mem_filter.2 ⟨by simpa using he, hb⟩, rfl⟩)
        simpa using this

section
variable {call : XCall} {n : Nat} {env : Env} {ops : Array Oper} {es : List Ent} {s0 sF : St} {L0 : LM} {w0 : World} {D : List Deferred}

theorem Inv.congr {done done' : Nat → Prop} {L : LM} {es1 es2 : List Ent} {mid : St} {a : Act} {w : World} (h : ∀ j, done j ↔ done' j) (I : Inv P n env ops es s0 sF L0 w0 D done L es1 es2 mid a w) :
    Inv P n env ops es s0 sF L0 w0 D done' L es1 es2 mid a w := by
  have : done = done' := funext fun j => propext (h j)
  rwa [← this]
theorem any_run (S : Stat m P call n env ops es s0 sF) (hc : CallsOK P call) {Q : Exit → Act → World → Prop}
    (hQ : ∀ done L es1 es2 mid a w, Inv P n env ops es s0 sF L0 w0 D done L es1 es2 mid a w → (∀ e ∈ es, done e.i) → Q .normal a w) :
    ∀ (fuel : Nat) (listed : Array Bool) (L : LM) (es1 es2 : List Ent) (mid : St) (a : Act) (w : World), listed.size = ops.size → left ops listed ≤ fuel →
      Inv P n env ops es s0 sF L0 w0 D (isDone listed) L es1 es2 mid a w → wpAny P .any ops Q fuel listed a w := by
  have full : ∀ (listed : Array Bool) (L : LM) (es1 es2 : List Ent) (mid : St) (a : Act) (w : World), listed.size = ops.size →
      Inv P n env ops es s0 sF L0 w0 D (isDone listed) L es1 es2 mid a w → Region.ready .any ops listed = [] → Q .normal a w := by
    intro listed L es1 es2 mid a w hs I hr
    refine hQ _ _ _ _ _ _ _ I ?_
    have : ∀ (post pre : List Ent), es = pre ++ post → (∀ x ∈ pre, isDone listed x.i) → ∀ e ∈ es, isDone listed e.i := by
      intro post
      induction post with
      | nil => intro pre h hp e he; rw [h] at he; exact hp e (by simpa using he)
      | cons y post ih =>
        intro pre h hp
        refine ih (pre ++ [y]) (by rw [h]; simp) fun x hx => ?_
        rcases List.mem_append.1 hx with hx | hx
        · exact hp x hx
        · have : x = y := by simpa using hx
          subst this
          have hx : x ∈ es := by rw [h]; simp
          by_cases hd : isDone listed x.i
          · exact hd
          · have hm : x.i ∈ Region.ready .any ops listed := (ready_spec hs).2 ⟨x.o, S.get x hx, hd, fun p hpp => by
              obtain ⟨z, hz, rfl⟩ := S.pre pre x post h p hpp
              exact hp z hz⟩
            rw [hr] at hm; cases hm
    exact this es [] rfl (by simp)
  intro fuel
  induction fuel with
  | zero =>
    intro listed L es1 es2 mid a w hs hle I
    have hr : Region.ready .any ops listed = [] := by
      cases h : Region.ready .any ops listed with
      | nil => rfl
      | cons i r =>
        have hm : i ∈ Region.ready .any ops listed := by rw [h]; simp
        have : i ∈ ((List.range ops.size).filter fun i => !listed.getD i true) := by
          unfold Region.ready at hm
          simp only [List.mem_filter, Bool.and_eq_true] at hm ⊢
          exact ⟨hm.1, hm.2.1⟩
        unfold left at hle
        have h0 := List.length_eq_zero_iff.1 (Nat.le_zero.1 hle)
        rw [h0] at this; cases this
    exact ⟨hr, full listed L es1 es2 mid a w hs I hr⟩
  | succ fuel ih =>
    intro listed L es1 es2 mid a w hs hle I
    refine ⟨fun hr => full listed L es1 es2 mid a w hs I hr, fun i hi => ?_⟩
    obtain ⟨o, ho, hd, hp⟩ := (ready_spec hs).1 hi
    have hil : i < ops.size := by have := (List.getElem?_eq_some_iff.1 ho).1; simpa using this
    obtain ⟨e, he, rfl⟩ := S.all i hil
    have : e.o = o := by have := S.get e he; rw [ho] at this; exact (Option.some.inj this).symm
    subst this
    have hl : listed[e.i]? = some (listed[e.i]'(by omega)) := Array.getElem?_eq_getElem (by omega)
    refine I.go S he hd hp hc fun L' es1' es2' mid' a' w' I' => ih _ L' es1' es2' mid' a' w' (by simp [hs]) ?_ (I'.congr fun j => ?_)
    · have : left ops (listed.setIfInBounds e.i true) < left ops listed := by
        refine filter_lt (i := e.i) (fun x hx hq => ?_) (List.mem_range.2 hil) ?_ ?_
        · simp [Array.getD_eq_getD_getElem?, Array.getElem?_setIfInBounds] at hq ⊢
          by_cases hxe : e.i = x
          · subst hxe; simp [hs, hil] at hq
          · simpa [hxe] using hq
        · unfold isDone at hd
          simp [Array.getD_eq_getD_getElem?, hl] at hd ⊢; exact hd
        · simp [Array.getD_eq_getD_getElem?, hs, hil]
      omega
    · unfold isDone
      simp only [Array.getD_eq_getD_getElem?, Array.getElem?_setIfInBounds]
      by_cases hje : e.i = j
      · subst hje; simp [hs, hil]
      · simp [hje, Ne.symm hje]

theorem not_done {N j : Nat} (h : isDone (Array.replicate N false) j) : False := by
  unfold isDone at h
  rw [Array.getD_eq_getD_getElem?, Array.getElem?_replicate] at h
  split at h <;> cases h
theorem drawOK : DrawOK P m := by
  intro call hc hs n env id ops h ds K Q D U L a w hk hU hl hn hd r hQ
  unfold xdraw at hk
  cases hp : planOf P ops.toList with
  | none => rw [hp] at hk; exact hk.elim
  | some its =>
    rw [hp] at hk
    have hk : xdr m P call n env ops.toList (ancL ops.toList []) its [] h ds [] K := hk
    obtain ⟨es, t, e1, e2, e3, e4⟩ := xdr_tab hs its ⟨[], h, ds, []⟩ K hk
    obtain ⟨S, hmix⟩ := planOf_stat hp e1 e2 rfl e3
    refine wp_region_any hmix ?_
    have hU' := hU _ _ _ e4
    have r' : RH L h { w with drawn := w.drawn + 1 } U := r.heap rfl
    refine any_run (L0 := L) (w0 := { w with drawn := w.drawn + 1 }) (D := D) S hc (fun done L' es1 es2 mid a' w' I hall => ?_) ops.size _ L [] es ⟨[], h, ds, []⟩ a _ (by simp) ?_
      ⟨rfl, rfl, e2, .inl rfl, ?_, Mid.start r', ?_, ?_, ⟨?_, ?_⟩, hn, hd, ?_⟩
    · have M : Mid L h { w with drawn := w.drawn + 1 } t.h.next L' t.h w' := by
        have := I.seg (post := []) (seg := es2) S (by simp) I.l2 fun x hx hb hk3 => I.no2 x hx hb hk3 (hall x (by rw [I.split]; simp [hx]))
        exact this
      refine hQ t.loc t.h t.ds L' a' w' e4 (fun x => ?_) I.size I.defers (rh_fresh M.rh fun i h1 h2 => ?_) ⟨M.ext, M.size, M.keep, M.own, M.new, M.next, M.os, M.output, M.tape, M.fro⟩
      · rcases link_look (x := x) e2 e3 with ⟨e, a1, a2, a3⟩ | ⟨a1, a2⟩
        · rw [a3]; exact I.slot.wr e a1 x a2 (hall e a1)
        · rw [a2]; exact I.slot.no x fun e he h => absurd h (a1 e he)
      · cases hi : L' i with
        | none => rfl
        | some p =>
          rcases M.new i p hi with h3 | ⟨_, h3, _⟩
          · have hle : h.next ≤ t.h.next := M.next
            have := r.fresh i (by omega) h2
            rw [h3] at this; cases this
          · omega
    · unfold left
      exact Nat.le_trans (List.length_filter_le _ _) (by simp)
    · intro e he _ _ hd
      exact not_done hd
    · intro e he _ _ hd
      exact (not_done hd).elim
    · intro i p hi h1 h2
      have h1 : h.next ≤ i := h1
      have := r.fresh i h1 (by omega)
      rw [hi] at this; cases this
    · intro e he x _ hd
      exact (not_done hd).elim
    · intro x _
      exact hl x
    · intro i o _ hd
      exact (not_done hd).elim
end
end
end
end Go.X

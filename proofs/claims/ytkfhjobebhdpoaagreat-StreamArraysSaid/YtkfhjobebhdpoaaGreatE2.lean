/- The operations of the abstract machine: slicing, making, appending. -/
import Derived.Test.YtkfhjobebhdpoaaGreatE1
import Derived.Laws.IdiomStrings
import Derived.Laws.Build
set_option linter.unusedVariables false
set_option linter.unusedSimpArgs false
set_option autoImplicit false
namespace Go.X
noncomputable section

/-- a bound of a slice expression; none: it is not given -/
def bnd (x : Option AV) (d : Nat) (K : Nat → Prop) : Prop := match x with
  | none => K d
  | some (.int _ n) => match n with
    | .ofNat k => K k
    | .negSucc _ => False
  | _ => False
def xslice (m : Bool) (P : Program) (t : TypeId) (x : AV) (lo hi mx : Option AV) (h : H) (ds : List Bool) (K : KV) : Prop :=
  match P.underlying t with
  | some .string => match x, mx with
    | .str n v, none => bnd hi n fun hv => bnd lo 0 fun lv => chk m (Bool.and (Nat.ble hv n) (Nat.ble lv hv)) (K (.str (Nat.sub hv lv) (subV v lv hv)) h ds)
    | _, _ => False
  | some (.slice e) => match sizeT P e with
    | some z => match x with
      | .slc i o len cap ex sz => match mx with
        | none => bnd hi len fun hv => bnd lo 0 fun lv => chk m (Bool.and (Nat.ble hv cap) (Bool.and (Nat.ble lv hv) (Nat.beq sz z)))
            (dcd m (Nat.ble (Nat.succ lv) cap) ds fun b ds => Bool.rec (Bool.rec (K .emp h ds) (K (.slc i o hv cap ex sz) h ds) (Nat.beq lv 0))
              (K (.slc i (Nat.add o (Nat.mul lv sz)) (Nat.sub hv lv) (Nat.sub cap lv) ex sz) h ds) b)
        | some mv => match hi with
          | none => False
          | some hvv => bnd (some mv) 0 fun mv => bnd (some hvv) len fun hv => bnd lo 0 fun lv => chk m (Bool.and (Nat.ble mv cap) (Bool.and (Nat.ble hv mv) (Bool.and (Nat.ble lv hv) (Nat.beq sz z))))
            (dcd m (Nat.ble (Nat.succ lv) mv) ds fun b ds => Bool.rec (K .emp h ds) (K (.slc i (Nat.add o (Nat.mul lv sz)) (Nat.sub hv lv) (Nat.sub mv lv) true sz) h ds) b)
      | .nils => match mx with
        | none => bnd hi 0 fun hv => bnd lo 0 fun lv => chk m (Bool.and (Nat.beq hv 0) (Nat.beq lv 0)) (K .nils h ds)
        | some mv => match hi with
          | none => False
          | some hvv => bnd (some mv) 0 fun mv => bnd (some hvv) 0 fun hv => bnd lo 0 fun lv => chk m (Bool.and (Nat.beq mv 0) (Bool.and (Nat.beq hv 0) (Nat.beq lv 0))) (K .nils h ds)
      | .emp => match mx with
        | none => bnd hi 0 fun hv => bnd lo 0 fun lv => chk m (Bool.and (Nat.beq hv 0) (Nat.beq lv 0)) (K .emp h ds)
        | some _ => False
      | _ => False
    | none => False
  | _ => False

inductive RO (L : LM) : Option AV → Option Value → Prop where
  | none : RO L none none
  | some (a : AV) (v : Value) (h : RV L a v) : RO L (some a) (some v)

section
variable {P : Program} {L : LM} {h : H} {w : World} {U : Nat} {m : Bool} {ds : List Bool} {K : KV}
theorem bnd_some {x : Option AV} {x' : Option Value} (hx : RO L x x') {d : Nat} {K : Nat → Prop} (hk : bnd x d K) :
    (x = none ∧ x' = none ∧ K d) ∨ ∃ (k : IntKind) (n : Nat), x' = some (.int k (n : Int)) ∧ K n ∧ x = some (.int k (n : Int)) := by
  unfold bnd at hk
  split at hk <;> try exact hk.elim
  · cases hx; exact .inl ⟨rfl, rfl, hk⟩
  · split at hk <;> try exact hk.elim
    cases hx with
    | some a v hv => cases hv; exact .inr ⟨_, _, rfl, hk, rfl⟩
theorem run_sliceBound {k : IntKind} {n y : Nat} {code : BoundsCode} (hn : n ≤ y) : (Instr.sliceBound (.int k (n : Int)) y code).run P w = .ok n w := by
  have h1 : (0 : Int) ≤ (n : Int) ∧ (n : Int) ≤ (y : Int) := ⟨by omega, by omega⟩
  simp [Instr.sliceBound, asIntOf, h1]
theorem run_sliceBounds {isSlice : Bool} {len cap : Nat} {lo hi : Option Value} {lv hv : Nat}
    (hhi : (hi = none ∧ hv = len) ∨ ∃ k, hi = some (.int k (hv : Int))) (hlo : (lo = none ∧ lv = 0) ∨ ∃ k, lo = some (.int k (lv : Int))) (h1 : hv ≤ cap) (h2 : lv ≤ hv) :
    (Instr.sliceBounds isSlice len cap lo hi none).run P w = .ok (lv, hv, cap) w := by
  rcases hhi with ⟨rfl, rfl⟩ | ⟨k, rfl⟩ <;> rcases hlo with ⟨rfl, rfl⟩ | ⟨k', rfl⟩ <;> simp [Instr.sliceBounds, run_sliceBound, h1, h2]
theorem run_sliceBounds3 {isSlice : Bool} {len cap : Nat} {lo : Option Value} {lv hv mv : Nat} {k k2 : IntKind}
    (hlo : (lo = none ∧ lv = 0) ∨ ∃ k, lo = some (.int k (lv : Int))) (h0 : mv ≤ cap) (h1 : hv ≤ mv) (h2 : lv ≤ hv) :
    (Instr.sliceBounds isSlice len cap lo (some (.int k (hv : Int))) (some (.int k2 (mv : Int)))).run P w = .ok (lv, hv, mv) w := by
  rcases hlo with ⟨rfl, rfl⟩ | ⟨k', rfl⟩ <;> simp [Instr.sliceBounds, run_sliceBound, h0, h1, h2]
theorem bnd_form {x : Option AV} {x' : Option Value} (hx : RO L x x') {d : Nat} {K : Nat → Prop} (hk : bnd x d K) :
    ∃ n, K n ∧ ((x' = none ∧ n = d) ∨ ∃ k, x' = some (.int k (n : Int))) := by
  rcases bnd_some hx hk with ⟨_, rfl, hk⟩ | ⟨k, n, rfl, hk, _⟩
  · exact ⟨d, hk, .inl ⟨rfl, rfl⟩⟩
  · exact ⟨n, hk, .inr ⟨k, rfl⟩⟩
theorem band {a b : Bool} (h : Bool.and a b = true) : a = true ∧ b = true := by cases a <;> cases b <;> first | exact ⟨rfl, rfl⟩ | cases h
theorem str_extract {s : ByteArray} {n v : Nat} (hs : strOf s = .str n v) {l k : Nat} (h1 : k ≤ n) (h2 : l ≤ k) : strOf (s.extract l k) = .str (Nat.sub k l) (subV v l k) := by
  obtain ⟨e1, e2, rfl⟩ := strOf_str hs
  rw [strOf_eq, subV_eq]
  have hd : (s.extract l k).data.toList = (s.data.toList.drop l).take (k - l) := by
    rw [ByteArray.data_extract, Array.toList_extract, List.extract_eq_take_drop]
  rw [hd]
  congr 1
  have : (s.extract l k).size = (s.extract l k).data.toList.length := rfl
  rw [this, hd]
  simp
  omega
theorem xslice_sound (r : RH L h w U) {t : TypeId} {x : AV} {x' : Value} {lo hi mx : Option AV} {lo' hi' mx' : Option Value} (hx : RV L x x') (hlo : RO L lo lo') (hhi : RO L hi hi') (hmx : RO L mx mx')
    (hk : xslice m P t x lo hi mx h ds K) : SemOK P (Instr.slice t x' lo' hi' mx') L h w U K := by
  unfold xslice at hk
  split at hk <;> try exact hk.elim
  · rename_i hu
    split at hk <;> try exact hk.elim
    cases hx with
    | str n v s hs =>
      cases hmx
      obtain ⟨hv, hk, e1⟩ := bnd_form hhi hk
      obtain ⟨lv, hk, e2⟩ := bnd_form hlo hk
      obtain ⟨hb, hk⟩ := chk_of hk
      obtain ⟨b1, b2⟩ := band hb
      have b1 := Nat.le_of_ble_eq_true b1
      have b2 := Nat.le_of_ble_eq_true b2
      obtain ⟨s1, _, _⟩ := strOf_str hs
      refine .same r hk (v' := .string (s.extract lv hv)) ?_ (.str _ _ _ (str_extract hs b1 b2))
      have hb := run_sliceBounds (P := P) (w := w) (isSlice := false) (len := s.size) (cap := s.size) (by rw [s1]; exact e1) e2 (by rw [s1]; exact b1) b2
      simp [Instr.slice, run_underlying hu, hb]
  · rename_i e hu
    split at hk <;> try exact hk.elim
    rename_i z hz
    split at hk <;> try exact hk.elim
    · rename_i i o len cap ex sz
      cases hx with
      | slc _ _ _ _ _ _ p c hp hc hl hxx he =>
        split at hk
        · cases hmx
          obtain ⟨hv, hk, e1⟩ := bnd_form hhi hk
          obtain ⟨lv, hk, e2⟩ := bnd_form hlo hk
          obtain ⟨hb, hk⟩ := chk_of hk
          obtain ⟨b1, b2⟩ := band hb
          obtain ⟨b2, b3⟩ := band b2
          have b1 := Nat.le_of_ble_eq_true b1
          have b2 := Nat.le_of_ble_eq_true b2
          rw [← Nat.eq_of_beq_eq_true b3] at hz
          have hb := run_sliceBounds (P := P) (w := w) (isSlice := true) (len := len) (cap := c) e1 e2 (by omega) b2
          obtain ⟨ds', hk⟩ := dcd_of hk
          cases hd : Nat.ble (Nat.succ lv) cap with
          | true =>
            rw [hd] at hk
            have hd := Nat.le_of_ble_eq_true hd
            have hne : ¬ c = lv := by omega
            have hmul : (c - lv) * sz = c * sz - lv * sz := Nat.sub_mul _ _ _
            have hle : lv * sz ≤ c * sz := Nat.mul_le_mul_right _ (by omega)
            refine .same r hk (v' := .slice (some ⟨p.B, p.O + (o + lv * sz), none⟩) (hv - lv) (c - lv)) ?_ (.slc i _ _ _ _ _ p _ hp (Nat.sub_le_sub_right hc _) (Nat.sub_le_sub_right b1 _) (fun e => by rw [hxx e]; rfl) ?_)
            · simp [Instr.slice, run_underlying hu, hb, run_sizeT hz, hne, add_at, Nat.add_assoc]
            · show p.O + (o + lv * sz) + (c - lv) * sz ≤ p.E
              omega
          | false =>
            rw [hd] at hk
            have hd : ¬ lv + 1 ≤ cap := fun h => by rw [Nat.ble_eq_true_of_le h] at hd; cases hd
            have e3 : hv = lv := by omega
            cases h0 : Nat.beq lv 0 with
            | true =>
              rw [h0] at hk
              have h0 := Nat.eq_of_beq_eq_true h0
              subst h0
              refine .same r hk (v' := .slice (some ⟨p.B, p.O + o, none⟩) hv c) ?_ (.slc i _ _ _ _ _ p _ hp hc b1 hxx he)
              simp [Instr.slice, run_underlying hu, hb, run_sizeT hz, Addr.add]
            | false =>
              rw [h0] at hk
              refine .same r hk (v' := .slice (if c = lv then some ⟨p.B, p.O + o, none⟩ else some ((⟨p.B, p.O + o, none⟩ : Addr).add (lv * sz))) 0 (c - lv)) ?_ (.emp _ _)
              simp [Instr.slice, run_underlying hu, hb, run_sizeT hz, e3]
        · rename_i mv
          split at hk <;> try exact hk.elim
          rename_i hvv
          obtain ⟨mvn, hk, em⟩ := bnd_form hmx hk
          rcases em with ⟨em, _⟩ | ⟨k2, rfl⟩
          · subst em; cases hmx
          obtain ⟨hv, hk, e1⟩ := bnd_form hhi hk
          obtain ⟨lv, hk, e2⟩ := bnd_form hlo hk
          obtain ⟨hb, hk⟩ := chk_of hk
          obtain ⟨b1, b2⟩ := band hb
          obtain ⟨b2, b3⟩ := band b2
          obtain ⟨b3, b4⟩ := band b3
          have b1 := Nat.le_of_ble_eq_true b1
          have b2 := Nat.le_of_ble_eq_true b2
          have b3 := Nat.le_of_ble_eq_true b3
          rw [← Nat.eq_of_beq_eq_true b4] at hz
          obtain ⟨ds', hk⟩ := dcd_of hk
          cases hhi with
          | some _ v hav =>
            rcases e1 with ⟨e1, _⟩ | ⟨k1, e1⟩
            · cases e1
            cases e1
            have hb := run_sliceBounds3 (P := P) (w := w) (isSlice := true) (len := len) (cap := c) (k := k1) (k2 := k2) e2 (by omega) b2 b3
            cases hd : Nat.ble (Nat.succ lv) mvn with
            | true =>
              rw [hd] at hk
              have hd := Nat.le_of_ble_eq_true hd
              have hne : ¬ mvn = lv := by omega
              have hmul : (mvn - lv) * sz = mvn * sz - lv * sz := Nat.sub_mul _ _ _
              have hle : lv * sz ≤ mvn * sz := Nat.mul_le_mul_right _ (by omega)
              have hle2 : mvn * sz ≤ c * sz := Nat.mul_le_mul_right _ (by omega)
              refine .same r hk (v' := .slice (some ⟨p.B, p.O + (o + lv * sz), none⟩) (hv - lv) (mvn - lv)) ?_ (.slc i _ _ _ _ _ p _ hp (Nat.le_refl _) (Nat.sub_le_sub_right b2 _) (fun e => rfl) ?_)
              · simp [Instr.slice, run_underlying hu, hb, run_sizeT hz, hne, add_at, Nat.add_assoc]
              · show p.O + (o + lv * sz) + (mvn - lv) * sz ≤ p.E
                omega
            | false =>
              rw [hd] at hk
              have hd : ¬ lv + 1 ≤ mvn := fun h => by rw [Nat.ble_eq_true_of_le h] at hd; cases hd
              have e3 : hv = lv := by omega
              rw [e3] at hb
              refine .same r hk (v' := .slice (if mvn = lv then some ⟨p.B, p.O + o, none⟩ else some ((⟨p.B, p.O + o, none⟩ : Addr).add (lv * sz))) 0 (mvn - lv)) ?_ (.emp _ _)
              simp [Instr.slice, run_underlying hu, hb, run_sizeT hz, e3]
    · cases hx
      split at hk <;> try exact hk.elim
      · cases hmx
        obtain ⟨hv, hk, e1⟩ := bnd_form hhi hk
        obtain ⟨lv, hk, e2⟩ := bnd_form hlo hk
        obtain ⟨hb, hk⟩ := chk_of hk
        obtain ⟨b1, b2⟩ := band hb
        have b1 := Nat.eq_of_beq_eq_true b1
        have b2 := Nat.eq_of_beq_eq_true b2
        rw [b1] at e1
        rw [b2] at e2
        have hb := run_sliceBounds (P := P) (w := w) (isSlice := true) (len := 0) (cap := 0) e1 e2 (Nat.le_refl _) (Nat.le_refl _)
        exact .same r hk (v' := .slice none 0 0) (by simp [Instr.slice, run_underlying hu, hb, run_sizeT hz]) .nils
      · split at hk <;> try exact hk.elim
        obtain ⟨mvn, hk, e0⟩ := bnd_form hmx hk
        obtain ⟨hv, hk, e1⟩ := bnd_form hhi hk
        obtain ⟨lv, hk, e2⟩ := bnd_form hlo hk
        obtain ⟨hb, hk⟩ := chk_of hk
        obtain ⟨b0, b1⟩ := band hb
        obtain ⟨b1, b2⟩ := band b1
        have b0 := Nat.eq_of_beq_eq_true b0
        have b1 := Nat.eq_of_beq_eq_true b1
        have b2 := Nat.eq_of_beq_eq_true b2
        rw [b0] at e0
        rw [b1] at e1
        rw [b2] at e2
        cases hmx with
        | some _ u hau =>
          cases hhi with
          | some _ v hav =>
            rcases e0 with ⟨e0, _⟩ | ⟨k0, e0⟩
            · cases e0
            rcases e1 with ⟨e1, _⟩ | ⟨k1, e1⟩
            · cases e1
            cases e0
            cases e1
            have hb := run_sliceBounds3 (P := P) (w := w) (isSlice := true) (len := 0) (cap := 0) (hv := 0) (mv := 0) (lv := 0) (k := k1) (k2 := k0) e2 (Nat.le_refl _) (Nat.le_refl _) (Nat.le_refl _)
            exact .same r hk (v' := .slice none 0 0) (by simp only [Int.natCast_zero] at hb; simp [Instr.slice, run_underlying hu, hb, run_sizeT hz]) .nils
    · cases hx with
      | emp a c =>
        split at hk <;> try exact hk.elim
        cases hmx
        obtain ⟨hv, hk, e1⟩ := bnd_form hhi hk
        obtain ⟨lv, hk, e2⟩ := bnd_form hlo hk
        obtain ⟨hb, hk⟩ := chk_of hk
        obtain ⟨b1, b2⟩ := band hb
        have b1 := Nat.eq_of_beq_eq_true b1
        have b2 := Nat.eq_of_beq_eq_true b2
        rw [b1] at e1
        rw [b2] at e2
        have hb := run_sliceBounds (P := P) (w := w) (isSlice := true) (len := 0) (cap := c) e1 e2 (Nat.zero_le _) (Nat.le_refl _)
        refine .same r hk (v' := .slice (if c = 0 then a else a.map (·.add (0 * z))) 0 (c - 0)) ?_ (.emp _ _)
        simp [Instr.slice, run_underlying hu, hb, run_sizeT hz]
end
end
end Go.X
/- The operations of the abstract machine: making and appending. -/
set_option autoImplicit false
namespace Go.X
noncomputable section

def bytesT (P : Program) (t : TypeId) : Option Nat := (P.info? t).map (·.bytes)
def i64n (v : AV) (K : Nat → Prop) : Prop := match v with
  | .int _ n => match n with
    | .ofNat k => K k
    | .negSucc _ => False
  | _ => False
def xmake (m : Bool) (P : Program) (t : TypeId) (len cap : AV) (h : H) (ds : List Bool) (K : KV) : Prop :=
  match elemT P t with
  | some e => match sizeT P e, zcells P e, bytesT P e with
    | some sz, some zs, some by_ => i64n len fun l => i64n cap fun c =>
      chk m (Bool.and (Nat.ble l c) (Bool.and (Nat.ble c 9223372036854775807) (Bool.and (Nat.ble (Nat.mul by_ c) 281474976710656) (Nat.beq (llen zs) sz))))
        (K (.slc h.next 0 l c true sz) (hrow h (lrep c zs) e) ds)
    | _, _, _ => False
  | none => False

/-- strike of all the blocks ps -/
def dels (t : T Blk) (ps : List Nat) : T Blk := List.rec t (fun q _ ih => ih.del q) ps
theorem get_dels {t : T Blk} : ∀ {ps : List Nat} {j : Nat} {k : Blk}, (dels t ps).get j = some k → t.get j = some k ∧ j ∉ ps
  | [], j, k, h => ⟨h, fun h => by cases h⟩
  | q :: ps, j, k, h => by
    obtain ⟨a, b⟩ := T.get_del (t := dels t ps) h
    obtain ⟨c, d⟩ := get_dels b
    exact ⟨c, fun hm => by rcases List.mem_cons.1 hm with e | e; exact a e; exact d e⟩

/-- the heap behind an append to a slice of row i (it begins at o) whose capacity is not known -/
def happ (h : H) (i o p : Nat) (cells : List AV) (e : TypeId) (ps : List Nat) (all : List AV) : H :=
  ⟨T.set (Bool.rec ((dels h.b ps).del i) (Bool.rec ((dels h.b ps).del i) ((dels h.b ps).set (.row cells e true [h.next]) i) (Nat.ble (llen cells) p)) (Nat.beq o 0))
    (.row all e true [i]) h.next, Nat.succ h.next⟩

/-- the same, the case made ahead -/
def happB (keep : Bool) (h : H) (i : Nat) (cells : List AV) (e : TypeId) (ps : List Nat) (all : List AV) : H :=
  ⟨T.set (Bool.rec ((dels h.b ps).del i) ((dels h.b ps).set (.row cells e true [h.next]) i) keep) (.row all e true [i]) h.next, Nat.succ h.next⟩
def happK (h : H) (i o p : Nat) (cells : List AV) (e : TypeId) (ps : List Nat) (all : List AV) (K : H → Prop) : Prop :=
  Bool.rec (K (happB false h i cells e ps all)) (Bool.rec (K (happB false h i cells e ps all)) (K (happB true h i cells e ps all)) (Nat.ble (llen cells) p)) (Nat.beq o 0)
theorem happK_eq {h : H} {i o p : Nat} {cells : List AV} {e : TypeId} {ps : List Nat} {all : List AV} {K : H → Prop} : happK h i o p cells e ps all K = K (happ h i o p cells e ps all) := by
  unfold happK happ
  cases Nat.beq o 0 with
  | false => rfl
  | true => cases Nat.ble (llen cells) p <;> rfl
/-- news: the new cells -/
def xappN (m : Bool) (by_ sz : Nat) (e : TypeId) (s : AV) (n : Nat) (news : List AV) (h : H) (ds : List Bool) (K : KV) : Prop :=
  match s with
  | .nils => chk m (Bool.and (Nat.ble n 9223372036854775807) (Nat.ble (Nat.mul n by_) 140737488355328)) (K (.slc h.next 0 n n false sz) (hrow h news e) ds)
  | .slc i o l cap ex sz' => chk m (Nat.beq sz' sz) (dcd m (Nat.ble (Nat.add l n) cap) ds fun b ds => Bool.rec
      (match h.b.get i with
        | some (.row cells e' wr ps) =>
          chk m (Bool.and (Nat.beq e' e) (Bool.and (Nat.beq (llen (ltake (ldrop cells o) (Nat.mul l sz))) (Nat.mul l sz)) (Bool.and (Nat.ble (Nat.add l n) 9223372036854775807) (Nat.ble (Nat.mul (Nat.add l n) by_) 140737488355328))))
          (Bool.rec (Bool.rec False (Bool.rec False (happK h i o (Nat.mul l sz) cells e ps (lapp (ltake (ldrop cells o) (Nat.mul l sz)) news) fun h' => K (.slc h.next 0 (Nat.add l n) (Nat.add l n) false sz) h' ds) (ones news)) wr)
            (K (.slc h.next 0 (Nat.add l n) (Nat.add l n) false sz) (hrow h (lapp (ltake (ldrop cells o) (Nat.mul l sz)) news) e) ds) ex)
        | _ => False)
      (hwr m h i (Nat.add o (Nat.mul l sz)) news fun h => K (.slc i o (Nat.add l n) cap ex sz) h ds) b)
  | _ => False
def xapp (m : Bool) (P : Program) (t tx : TypeId) (s x : AV) (h : H) (ds : List Bool) (K : KV) : Prop :=
  match elemT P t, elemT P tx with
  | some e, some _ => match sizeT P e, zcells P e, bytesT P e with
    | some sz, some zs, some by_ => match x with
      | .nils => match s with
        | .nils => K .nils h ds
        | .slc i o l cap ex sz' => K (.slc i o l cap ex sz') h ds
        | .emp => K .emp h ds
        | _ => False
      | .emp => match s with
        | .nils => K .nils h ds
        | .slc i o l cap ex sz' => K (.slc i o l cap ex sz') h ds
        | .emp => K .emp h ds
        | _ => False
      | .slc j oj n _ _ _ => dcd m (Nat.beq n 0) ds fun b ds => Bool.rec
          (match h.b.get j with
            | some (.row cells _ _ _) => chk m (Bool.and (Nat.beq (llen zs) sz) (Nat.beq (llen (ltake (ldrop cells oj) (Nat.mul n sz))) (Nat.mul n sz)))
              (xappN m by_ sz e s n (ltake (ldrop cells oj) (Nat.mul n sz)) h ds K)
            | _ => False)
          (match s with
            | .nils => K .nils h ds
            | .slc i o l cap ex sz' => K (.slc i o l cap ex sz') h ds
            | .emp => K .emp h ds
            | _ => False) b
      | .vs j oj n g => chk m (Bool.and (Nat.ble 1 n) (Bool.and (Nat.beq (llen zs) sz) (Nat.beq sz 1))) (cellsAre h j g n oj ∧ xappN m by_ sz e s n (vcells g n oj) h ds K)
      | _ => False
    | _, _, _ => False
  | _, _ => False

section
variable {P : Program} {L : LM} {h : H} {w : World} {U : Nat} {m : Bool} {ds : List Bool} {K : KV}
theorem bytesT_some {t : TypeId} {n : Nat} (h : bytesT P t = some n) : ∃ i, P.info? t = some i ∧ i.bytes = n := by
  unfold bytesT at h
  cases hi : P.info? t with
  | none => simp [hi] at h
  | some i => simp [hi] at h; exact ⟨i, rfl, h⟩
theorem i64n_some {v : AV} {v' : Value} (hv : RV L v v') {K : Nat → Prop} (hk : i64n v K) : ∃ (k : IntKind) (n : Nat), v' = .int k (n : Int) ∧ K n := by
  unfold i64n at hk
  split at hk <;> try exact hk.elim
  split at hk <;> try exact hk.elim
  cases hv
  exact ⟨_, _, rfl, hk⟩
theorem wrap64_nat {n : Nat} (h : n ≤ 9223372036854775807) : IntKind.i64.wrap (n : Int) = n := by
  simp [IntKind.wrap, IntKind.bits, IntKind.signed]; omega
theorem xmake_sound (r : RH L h w U) (hU : ∀ v h' ds', K v h' ds' → h'.next ≤ U) {t : TypeId} {len cap : AV} {len' cap' : Value} (hl : RV L len len') (hc : RV L cap cap') (hk : xmake m P t len cap h ds K) :
    SemOK P (Instr.makeSlice t len' cap') L h w U K := by
  unfold xmake at hk
  split at hk <;> try exact hk.elim
  rename_i e he
  split at hk <;> try exact hk.elim
  rename_i sz zs by_ hsz hzs hby
  obtain ⟨k1, l, rfl, hk⟩ := i64n_some hl hk
  obtain ⟨k2, c, rfl, hk⟩ := i64n_some hc hk
  obtain ⟨hb, hk⟩ := chk_of hk
  obtain ⟨b1, b2⟩ := band hb
  obtain ⟨b2, b3⟩ := band b2
  obtain ⟨b3, b4⟩ := band b3
  have b1 := Nat.le_of_ble_eq_true b1
  have b2 := Nat.le_of_ble_eq_true b2
  have b3 : by_ * c ≤ 281474976710656 := Nat.le_of_ble_eq_true b3
  have b4 := Nat.eq_of_beq_eq_true b4
  rw [llen_eq] at b4
  obtain ⟨i, z, hi, hz, hrv⟩ := zcells_some hzs
  obtain ⟨i', hi', hs⟩ := sizeT_some hsz
  rw [hi] at hi'; cases hi'
  obtain ⟨i', hi', hy⟩ := bytesT_some hby
  rw [hi] at hi'; cases hi'
  have hzl : z.cells.size = sz := by have := (hrv L).length; simp at this; omega
  have hrep := rvs_rep (hrv L) c
  rw [hzl] at hrep
  obtain ⟨L', e1, e2, e3⟩ := rh_row r (hU _ _ _ hk) (lrep c zs) e _ (hc_of_rvs hrep)
  refine ⟨_, _, ds, L', _, _, hk, ?_, .slc _ 0 l c true sz _ c e1 (Nat.le_refl _) b1 (fun _ => rfl) (by simp), e2, e3⟩
  have w1 := wrap64_nat b2
  have w2 : IntKind.i64.wrap (l : Int) = l := wrap64_nat (by omega)
  have p48 : (2 : Int) ^ 48 = 281474976710656 := rfl
  have t1 : (decide ((c : Int) < 0) || decide ((i.bytes : Int) * (c : Int) > 2 ^ 48)) = false := by
    have : ((by_ * c : Nat) : Int) ≤ 281474976710656 := Int.ofNat_le.2 b3
    rw [Int.natCast_mul] at this
    rw [hy, p48, decide_eq_false (by omega : ¬ (c : Int) < 0), decide_eq_false (Int.not_lt.2 this)]; rfl
  have t2 : decide ((l : Int) < 0) = false := by simp
  have t3 : decide ((l : Int) > (c : Int)) = false := by simp; omega
  simp only [Instr.makeSlice, Sem.run_bind, run_underlying (elemT_some he), Result.andThen_ok, asInt, asIntOf, Sem.run_pure, typeInfo, run_program, hi, w1, w2, t1, t2, t3, Bool.or_false, Bool.false_eq_true, if_false,
    run_askRoom, Int.toNat_natCast, sizeOf, hs]
  by_cases h0 : c * sz = 0
  · have e0 : (Array.map (fun x => (#[] : Array Value)[x % (#[] : Array Value).size]!) (Array.range (c * sz))) = (Array.map (fun i => z.cells[i % sz]!) (Array.range (c * sz))) := by rw [h0]; simp
    rw [if_pos h0]
    simp only [Sem.run_bind, Sem.run_pure, Result.andThen_ok, e0, newRow, run_newObj]
    rfl
  · rw [if_neg h0]
    simp only [Sem.run_bind, Sem.run_pure, Result.andThen_ok, zeroValue, typeInfo, run_program, hi, hz, hzl, newRow, run_newObj]
    rfl
end
end
end Go.X
/- Appending. -/
set_option autoImplicit false
namespace Go.X
noncomputable section
section
variable {P : Program} {w w' : World} {t tx ty e e2 : TypeId} {i : TypeInfo} {z : Value}
theorem run_app_room (ht : P.underlying t = some (.slice e)) (htx : P.underlying tx = some (.slice e2)) (hi : P.info? e = some i) {xb : Option Addr} {n xc : Nat} {news : Array Value}
    (hf : (Builtin.firstCells i.size n (.slice xb n xc)).run P w = .ok news w) {a : Addr} {sLen sCap : Nat} (hroom : sLen + n ≤ sCap)
    (hst : (storeCells (a.add (sLen * i.size)) news.toList).run P w = .ok () w') :
    (Builtin.append_ #[t, tx] ty #[.slice (some a) sLen sCap, .slice xb n xc]).run P w = .ok (.slice (some a) (sLen + n) sCap) w' := by
  simp [Builtin.append_, run_underlying ht, run_underlying htx, sizeOf, typeInfo, hi, Builtin.lenOf, hroom, hf, hst]
theorem run_app_none (ht : P.underlying t = some (.slice e)) (htx : P.underlying tx = some (.slice e2)) (hi : P.info? e = some i) {xb base : Option Addr} {xc : Nat} {sLen sCap : Nat}
    (hle : sLen ≤ sCap) (hb : ∀ a, base = some a → a.spot = none) :
    (Builtin.append_ #[t, tx] ty #[.slice base sLen sCap, .slice xb 0 xc]).run P w = .ok (.slice base sLen sCap) w := by
  have hf : (Builtin.firstCells i.size 0 (.slice xb 0 xc)).run P w = .ok #[] w := by
    cases xb <;> simp [Builtin.firstCells, loadCells, loadCellsFrom]
  cases base <;> simp [Builtin.append_, run_underlying ht, run_underlying htx, sizeOf, typeInfo, hi, Builtin.lenOf, hle, hf, storeCells]
theorem run_app_grow (ht : P.underlying t = some (.slice e)) (htx : P.underlying tx = some (.slice e2)) (hi : P.info? e = some i) (hz : i.zero = some z) {xb : Option Addr} {n xc : Nat} {news olds : Array Value}
    (hf : (Builtin.firstCells i.size n (.slice xb n xc)).run P w.drew = .ok news w.drew) {base : Option Addr} {sLen sCap : Nat}
    (hfo : (Builtin.firstCells i.size sLen (.slice base sLen sCap)).run P w.drew = .ok olds w.drew) (hg : sCap < sLen + n)
    (h63 : sLen + n ≤ 9223372036854775807) (hfit : (sLen + n) * i.bytes ≤ 140737488355328) :
    (Builtin.append_ #[t, tx] ty #[.slice base sLen sCap, .slice xb n xc]).run P w =
      .ok (.slice (some ⟨w.heap.size, 0, none⟩) (sLen + n) (grownCap w (sLen + n) sCap e))
        (w.drew.alloc (.cells (olds ++ news ++ Builtin.zeroCells z.cells (grownCap w (sLen + n) sCap e - (sLen + n))) e)) := by
  have hn : ¬ (sLen + n ≤ sCap) := by omega
  have h63' : ¬ (9223372036854775807 < ((sLen : Int) + (n : Int))) := by omega
  have h48' : ¬ (281474976710656 < Builtin.nextslicecap (sLen + n) sCap * i.bytes) := by have := growslice_fits hg hfit; omega
  simp [Builtin.append_, run_underlying ht, run_underlying htx, sizeOf, typeInfo, zeroValue, hi, hz, Builtin.lenOf, hn, h63', h48', Question.forced, hf, hfo, newRow, grownCap]
theorem grownCap_ge (w : World) (need old : Nat) (e : TypeId) : need ≤ grownCap w need old e := by
  simp [grownCap, Question.cut]
end

section
variable {P : Program} {L : LM} {h : H} {w : World} {U : Nat} {m : Bool} {ds : List Bool} {K : KV}
theorem cells_seg {B o : Nat} {vs : List Value} (hc : ∀ (j : Nat) (v : Value), vs[j]? = some v → w.cell? ((⟨B, o, none⟩ : Addr).add j) = some v) {size n len cap : Nat} (hl : vs.length = n * size) {w2 : World} (hw : w2.heap = w.heap) :
    (Builtin.firstCells size n (.slice (some ⟨B, o, none⟩) len cap)).run P w2 = .ok vs.toArray w2 := by
  refine run_firstCells_some w2 size n _ len cap vs hl fun j v hv => ?_
  have := hc j v hv
  simp only [World.cell?, hw] at this ⊢
  exact this
theorem zeroCells_size (zs : Array Value) (n : Nat) : (Builtin.zeroCells zs n).size = n * zs.size := by simp [Builtin.zeroCells]

/-- news at a fresh row -/
theorem app_fresh (r : RH L h w U) (hU : ∀ v h' ds', K v h' ds' → h'.next ≤ U) {t tx ty e e2 : TypeId} {i : TypeInfo} {z : Value} (ht : P.underlying t = some (.slice e)) (htx : P.underlying tx = some (.slice e2)) (hi : P.info? e = some i) (hz : i.zero = some z)
    (hzs : z.cells.size = i.size)
    {xb : Option Addr} {n xc : Nat} {news : List AV} {nv : List Value} (hnv : RVs L news nv) (hf : (Builtin.firstCells i.size n (.slice xb n xc)).run P w.drew = .ok nv.toArray w.drew)
    {base : Option Addr} {sLen sCap : Nat} {olds : List AV} {ov : List Value} (hov : RVs L olds ov) (hfo : (Builtin.firstCells i.size sLen (.slice base sLen sCap)).run P w.drew = .ok ov.toArray w.drew)
    (hn : nv.length = n * i.size) (ho : ov.length = sLen * i.size)
    (hg : sCap < sLen + n) (h63 : sLen + n ≤ 9223372036854775807) (hfit : (sLen + n) * i.bytes ≤ 140737488355328)
    {qs : List Nat} (b' : T Blk) (hb' : ∀ j kj, b'.get j = some kj → (j = h.next ∧ kj = .row (olds ++ news) e true qs) ∨ (j ≠ h.next ∧ ∃ k0, h.b.get j = some k0 ∧ Same k0 kj ∧ ∀ l kl, l ≠ j → l ≠ h.next → b'.get l = some kl → l ∈ k0.ps → l ∈ kj.ps))
    (hk : K (.slc h.next 0 (sLen + n) (sLen + n) false i.size) ⟨b', Nat.succ h.next⟩ ds) :
    SemOK P (Builtin.append_ #[t, tx] ty #[.slice base sLen sCap, .slice xb n xc]) L h w U K := by
  have hrun := run_app_grow (ty := ty) ht htx hi hz hf hfo hg h63 hfit
  have hge := grownCap_ge w (sLen + n) sCap e
  have rd : RH L h w.drew U := r.heap rfl
  have hc : ∀ (k : Nat) (v : AV), (olds ++ news)[k]? = some v → ∃ v', (ov.toArray ++ nv.toArray ++ Builtin.zeroCells z.cells (grownCap w (sLen + n) sCap e - (sLen + n)))[k]? = some v' ∧ RV L v v' := by
    intro k v hv
    obtain ⟨v', a, b⟩ := (hov.append hnv).get hv
    refine ⟨v', ?_, b⟩
    have hlt := (List.getElem?_eq_some_iff.1 a).1
    rw [Array.getElem?_append_left (by simp at hlt ⊢; omega)]
    simpa using a
  obtain ⟨L', e1, e2', e3⟩ := rh_newG rd (hU _ _ _ hk) (.row (olds ++ news) e true qs) (.cells (ov.toArray ++ nv.toArray ++ Builtin.zeroCells z.cells (grownCap w (sLen + n) sCap e - (sLen + n))) e) (fun a _ => fro_alloc _ _ _ a)
    (ov.toArray ++ nv.toArray ++ Builtin.zeroCells z.cells (grownCap w (sLen + n) sCap e - (sLen + n))).size (fun L' hx => ⟨_, (0, 0), alloc_new _ _, ⟨rfl, Nat.zero_le _⟩, fun _ => rfl, fun k v hv =>
    let ⟨v', a, b⟩ := hc k v hv
    ⟨v', by rw [Nat.zero_add]; exact a, b.mono hx⟩⟩) b' hb'
  refine ⟨_, _, ds, L', _, _, hk, hrun, .slc _ 0 _ _ false i.size _ _ e1 hge (Nat.le_refl _) (fun h => by cases h) ?_, e2', ?_⟩
  · simp only [Array.size_append, zeroCells_size, hzs, List.size_toArray, hn, ho, Nat.zero_add]
    have h1 : grownCap w (sLen + n) sCap e * i.size = (sLen + n) * i.size + (grownCap w (sLen + n) sCap e - (sLen + n)) * i.size := by
      rw [← Nat.add_mul]; congr 1; omega
    have h2 : (sLen + n) * i.size = sLen * i.size + n * i.size := Nat.add_mul _ _ _
    omega
  · exact ⟨e3.ext, e3.size, e3.keep, e3.own, e3.new, e3.next, e3.os, e3.output, e3.tape, e3.fro⟩

theorem out_of_ones {xs : List AV} {K : Prop} (h : (Bool.rec False K (ones xs) : Prop)) : ones xs = true ∧ K := by
  cases ho : ones xs with
  | true => rw [ho] at h; exact ⟨rfl, h⟩
  | false => rw [ho] at h; exact h.elim

theorem row_get (h : H) (cells : List AV) (e : TypeId) {j : Nat} {kj : Blk} (hj : (hrow h cells e).b.get j = some kj) :
    (j = h.next ∧ kj = .row cells e true []) ∨ (j ≠ h.next ∧ ∃ k0, h.b.get j = some k0 ∧ Same k0 kj ∧ ∀ l kl, l ≠ j → l ≠ h.next → (hrow h cells e).b.get l = some kl → l ∈ k0.ps → l ∈ kj.ps) := by
  rcases T.get_set hj with ⟨rfl, rfl⟩ | ⟨hi, hk⟩
  · exact .inl ⟨rfl, rfl⟩
  · exact .inr ⟨hi, kj, hk, .inl rfl, fun _ _ _ _ _ h => h⟩
theorem happ_get {h : H} {i o k : Nat} {cells all : List AV} {e : TypeId} {ps : List Nat} {j : Nat} {kj : Blk} (hj : (happ h i o k cells e ps all).b.get j = some kj) :
    (j = h.next ∧ kj = .row all e true [i]) ∨ (j ≠ h.next ∧ j = i ∧ o = 0 ∧ cells.length ≤ k ∧ kj = .row cells e true [h.next]) ∨ (j ≠ h.next ∧ j ≠ i ∧ j ∉ ps ∧ h.b.get j = some kj) := by
  rcases T.get_set hj with ⟨rfl, rfl⟩ | ⟨hjn, hj⟩
  · exact .inl ⟨rfl, rfl⟩
  · have hdel : ((dels h.b ps).del i).get j = some kj → j ≠ h.next ∧ j ≠ i ∧ j ∉ ps ∧ h.b.get j = some kj := by
      intro hj
      obtain ⟨a, b⟩ := T.get_del hj
      obtain ⟨c, d⟩ := get_dels b
      exact ⟨hjn, a, d, c⟩
    cases h0 : Nat.beq o 0 with
    | false => rw [h0] at hj; exact .inr (.inr (hdel hj))
    | true =>
      rw [h0] at hj
      cases h1 : Nat.ble (llen cells) k with
      | false => rw [h1] at hj; exact .inr (.inr (hdel hj))
      | true =>
        rw [h1] at hj
        rcases T.get_set hj with ⟨rfl, rfl⟩ | ⟨hji, hj⟩
        · have h1 := Nat.le_of_ble_eq_true h1
          rw [llen_eq] at h1
          exact .inr (.inl ⟨hjn, rfl, Nat.eq_of_beq_eq_true h0, h1, rfl⟩)
        · obtain ⟨c, d⟩ := get_dels hj
          exact .inr (.inr ⟨hjn, hji, d, c⟩)
theorem rh_happ (r : RH L h w U) (hU : Nat.succ h.next ≤ U) {i : Nat} {p : Loc} {cells : List AV} {e : TypeId} {ps : List Nat} (hi : h.b.get i = some (.row cells e true ps)) (hp : L i = some p)
    {o k : Nat} {olds news : List AV} {c : Array Value} {ov nv : List Value} (hc : w.heap[p.B]? = some (.cells c e (0, 0)))
    (hov : RVs L olds ov) (hnv : RVs L news nv) (hol : ov.length = k) (hcold : ∀ (j : Nat) (v : Value), ov[j]? = some v → c[p.O + o + j]? = some v) (hfit : p.O + o + k + nv.length ≤ c.size) :
    ∃ L', L' h.next = some ⟨p.B, p.O + o, p.E⟩ ∧ RH L' (happ h i o k cells e ps (olds ++ news)) (w.setRow p.B ((c.toList.take (p.O + o + k) ++ nv ++ c.toList.drop (p.O + o + k + nv.length)).toArray)) U ∧
      Step L L' h (happ h i o k cells e ps (olds ++ news)) w (w.setRow p.B ((c.toList.take (p.O + o + k) ++ nv ++ c.toList.drop (p.O + o + k + nv.length)).toArray)) := by
  have hn := r.fresh h.next (Nat.le_refl _) hU
  have hx : Ext L (lmNew L h.next ⟨p.B, p.O + o, p.E⟩) := ext_new hn
  generalize hc' : (c.toList.take (p.O + o + k) ++ nv ++ c.toList.drop (p.O + o + k + nv.length)).toArray = c'
  have hget : ∀ j, c'[j]? = if j < p.O + o + k then c[j]? else if j < p.O + o + k + nv.length then nv[j - (p.O + o + k)]? else c[j]? := by
    intro j; rw [← hc']; exact arr_splice c (p.O + o + k) nv hfit j
  have hsz : c'.size = c.size := by rw [← hc']; simp; omega
  have hnew := setRow_heap w p.B c c' e (0, 0) hc
  have hsize : (w.setRow p.B c').heap.size = w.heap.size := by simp [World.setRow]
  obtain ⟨c0, fz0, g1, g2, g3, g4⟩ := r.mem _ _ _ hi hp
  rw [hc] at g1; cases g1
  have hb' := @happ_get h i o k cells (olds ++ news) e ps
  have other : ∀ {j kj q}, j ≠ i → j ∉ ps → h.b.get j = some kj → L j = some q → p.B ≠ q.B := by
    intro j kj q hji hps hj hq hB
    obtain ⟨_, _, hm⟩ := r.sep i j _ _ p q hi hj hp hq (Ne.symm hji) rfl hB
    exact hps hm
  have lo : ∀ {j}, j ≠ h.next → lmNew L h.next ⟨p.B, p.O + o, p.E⟩ j = L j := fun e => lmNew_other e
  refine ⟨lmNew L h.next ⟨p.B, p.O + o, p.E⟩, lmNew_same _ _ _, ⟨?_, ?_, ?_, ?_, ?_⟩, ⟨hx, by rw [hsize]; exact Nat.le_refl _, ?_, ?_, ?_, Nat.le_succ _, rfl, rfl, rfl, fun a _ => fro_setRow hc a⟩⟩
  · intro j kj q hj hq
    rcases hb' hj with ⟨rfl, rfl⟩ | ⟨hjn, rfl, rfl, hle, rfl⟩ | ⟨hjn, hji, hps, hj⟩
    · rw [lmNew_same] at hq; cases hq
      refine ⟨c', (0, 0), hnew, ⟨hsz.trans g2.1, ?_⟩, fun _ => rfl, fun n v hv => ?_⟩
      · show p.O + o ≤ p.E
        rw [← g2.1]; omega
      · obtain ⟨v', a, b⟩ := (hov.append hnv).get hv
        refine ⟨v', ?_, b.mono hx⟩
        show c'[p.O + o + n]? = some v'
        rw [hget]
        by_cases h1 : n < k
        · rw [if_pos (by omega)]
          rw [List.getElem?_append_left (by omega)] at a
          exact hcold _ _ a
        · rw [List.getElem?_append_right (by omega), hol] at a
          have hlt := (List.getElem?_eq_some_iff.1 a).1
          rw [if_neg (by omega), if_pos (by omega), show p.O + o + n - (p.O + o + k) = n - k by omega]
          exact a
    · rw [lo hjn, hp] at hq; cases hq
      refine ⟨c', (0, 0), hnew, ⟨hsz.trans g2.1, g2.2⟩, fun _ => rfl, fun n v hv => ?_⟩
      obtain ⟨v', a, b⟩ := g4 n v hv
      have hlt := (List.getElem?_eq_some_iff.1 hv).1
      exact ⟨v', by rw [hget, if_pos (by omega)]; exact a, b.mono hx⟩
    · rw [lo hjn] at hq
      exact ((r.mem _ _ _ hj hq).mono hx).keep (setRow_heap_other _ _ _ _ (Ne.symm (other hji hps hj hq)))
  · intro j l kj kl q s hj hl hq hs hjl hw hB
    rcases hb' hj with ⟨rfl, rfl⟩ | ⟨hjn, rfl, rfl, hle, rfl⟩ | ⟨hjn, hji, hps, hj⟩
    · rw [lmNew_same] at hq; cases hq
      rcases hb' hl with ⟨rfl, rfl⟩ | ⟨hln, rfl, rfl, hle, rfl⟩ | ⟨hln, hli, hlps, hl⟩
      · exact absurd rfl hjl
      · rw [lo hln, hp] at hs; cases hs
        exact ⟨rfl, by simp, by simp [Blk.ps]⟩
      · rw [lo hln] at hs
        exact absurd hB (other hli hlps hl hs)
    · rw [lo hjn, hp] at hq; cases hq
      rcases hb' hl with ⟨rfl, rfl⟩ | ⟨hln, rfl, _, hle, rfl⟩ | ⟨hln, hli, hlps, hl⟩
      · rw [lmNew_same] at hs; cases hs
        exact ⟨rfl, by simp, by simp [Blk.ps]⟩
      · exact absurd rfl hjl
      · rw [lo hln] at hs
        exact absurd hB (other hli hlps hl hs)
    · rw [lo hjn] at hq
      rcases hb' hl with ⟨rfl, rfl⟩ | ⟨hln, hli, _, hle, rfl⟩ | ⟨hln, hli, hlps, hl⟩
      · rw [lmNew_same] at hs; cases hs
        exact absurd hB.symm (other hji hps hj hq)
      · rw [lo hln, hli, hp] at hs; cases hs
        exact absurd hB.symm (other hji hps hj hq)
      · rw [lo hln] at hs
        exact r.sep j l _ _ q s hj hl hq hs hjl hw hB
  · intro j hj hju
    have : h.next < j := hj
    rw [lo (by omega)]
    exact r.fresh j (by omega) hju
  · intro j q hq
    rw [hsize]
    by_cases e : j = h.next
    · subst e; rw [lmNew_same] at hq; cases hq; exact r.below i p hp
    · rw [lo e] at hq; exact r.below j q hq
  · intro j kj hj
    rcases hb' hj with ⟨rfl, rfl⟩ | ⟨hjn, rfl, _⟩ | ⟨hjn, hji, hps, hj⟩
    · exact Nat.lt_succ_self _
    · exact Nat.lt_succ_of_lt (r.live _ _ hi)
    · exact Nat.lt_succ_of_lt (r.live _ _ hj)
  · intro B hB ho
    exact setRow_heap_other _ _ _ _ fun e => ho ⟨i, _, p, hi, rfl, hp, e.symm⟩
  · rintro B ⟨j, kj, q, hj, hw, hq, rfl⟩ hB
    rcases hb' hj with ⟨rfl, rfl⟩ | ⟨hjn, rfl, rfl, hle, rfl⟩ | ⟨hjn, hji, hps, hj⟩
    · rw [lmNew_same] at hq; cases hq
      exact ⟨i, _, p, hi, rfl, hp, rfl⟩
    · rw [lo hjn] at hq; exact ⟨_, _, q, hi, rfl, hq, rfl⟩
    · rw [lo hjn] at hq; exact ⟨_, _, q, hj, hw, hq, rfl⟩
  · intro j q hq
    by_cases e : j = h.next
    · subst e; rw [lmNew_same] at hq; cases hq; exact .inr ⟨Nat.le_refl _, Nat.lt_succ_self _, .inr ⟨i, _, p, hi, rfl, hp, rfl⟩⟩
    · rw [lo e] at hq; exact .inl hq

theorem xappN_sound (r : RH L h w U) (hU : ∀ v h' ds', K v h' ds' → h'.next ≤ U) {t tx ty e e2 : TypeId} {i : TypeInfo} {z : Value} (ht : P.underlying t = some (.slice e)) (htx : P.underlying tx = some (.slice e2)) (hi : P.info? e = some i) (hz : i.zero = some z)
    (hzs : z.cells.size = i.size) {s : AV} {s' : Value} (hs : RV L s s') {B o n xc : Nat} {news : List AV} {nv : List Value} (hnv : RVs L news nv) (hn : nv.length = n * i.size)
    (h0 : 0 < n) (hcell : ∀ (j : Nat) (v : Value), nv[j]? = some v → w.cell? ((⟨B, o, none⟩ : Addr).add j) = some v)
    (hk : xappN m i.bytes i.size e s n news h ds K) : SemOK P (Builtin.append_ #[t, tx] ty #[s', .slice (some ⟨B, o, none⟩) n xc]) L h w U K := by
  unfold xappN at hk
  simp only [happK_eq] at hk
  split at hk <;> try exact hk.elim
  · obtain ⟨hb, hk⟩ := chk_of hk
    obtain ⟨b1, b2⟩ := band hb
    have b1 := Nat.le_of_ble_eq_true b1
    have b2 : n * i.bytes ≤ 140737488355328 := Nat.le_of_ble_eq_true b2
    cases hs
    refine app_fresh (ds := ds) (olds := []) (ov := []) r hU ht htx hi hz hzs hnv (cells_seg hcell hn rfl) .nil (by simp [Builtin.firstCells]) hn (by simp) (by omega) (by omega) (by rw [Nat.zero_add]; exact b2) _ (fun _ _ => row_get h _ e) ?_
    simp only [Nat.zero_add, List.nil_append]
    exact hk
  · rename_i a oa l cap ex sz'
    obtain ⟨hb, hk⟩ := chk_of hk
    have hb := Nat.eq_of_beq_eq_true hb
    obtain ⟨ds', hk⟩ := dcd_of hk
    cases hs with
    | slc _ _ _ _ _ _ p c hp hc hl hxx he0 =>
      have he : p.O + oa + c * i.size ≤ p.E := by rw [← hb]; exact he0
      cases hd : Nat.ble (Nat.add l n) cap with
      | true =>
        rw [hd] at hk
        have hd : l + n ≤ cap := Nat.le_of_ble_eq_true hd
        obtain ⟨h', w', a1, a2, a3, a4⟩ := hwr_sound (P := P) r hk hp hnv
        refine ⟨_, h', ds', L, _, w', a1, run_app_room ht htx hi (cells_seg hcell hn rfl) (by omega) ?_, .slc _ _ _ _ _ _ p c hp hc hd hxx he, a3, a4⟩
        rw [add_at]
        rw [Nat.add_assoc]; exact a2
      | false =>
        rw [hd] at hk
        have hd : ¬ l + n ≤ cap := fun h => by
          have : Nat.ble (Nat.add l n) cap = true := Nat.ble_eq_true_of_le h
          rw [this] at hd; cases hd
        simp only at hk
        split at hk <;> try exact hk.elim
        rename_i cells e' wr ps hrow_
        obtain ⟨hb2, hk⟩ := chk_of hk
        obtain ⟨c1, c2⟩ := band hb2
        obtain ⟨c2, c3⟩ := band c2
        obtain ⟨c3, c4⟩ := band c3
        have c1 := Nat.eq_of_beq_eq_true c1
        have c2 := Nat.eq_of_beq_eq_true c2
        have c3 : l + n ≤ 9223372036854775807 := Nat.le_of_ble_eq_true c3
        have c4 : (l + n) * i.bytes ≤ 140737488355328 := Nat.le_of_ble_eq_true c4
        rw [llen_eq] at c2
        rw [ltake_eq, ldrop_eq] at c2
        rw [ltake_eq, ldrop_eq, lapp_eq] at hk
        have c2 : (List.take (l * i.size) (List.drop oa cells)).length = l * i.size := c2
        obtain ⟨ov, q1, q2, q3⟩ := row_seg r hrow_ hp oa (l * i.size) c2
        subst c1
        cases ex with
        | true =>
          exact app_fresh r hU ht htx hi hz hzs hnv (cells_seg hcell hn rfl) q1 (cells_seg q3 q2 rfl) hn q2 (by rw [hxx rfl]; omega) c3 c4 _ (fun _ _ => row_get h _ e') hk
        | false =>
          cases wr with
          | false => exact hk.elim
          | true =>
            obtain ⟨ho, hk⟩ := out_of_ones hk
            by_cases hg : c < l + n
            · refine app_fresh (qs := [a]) r hU ht htx hi hz hzs hnv (cells_seg hcell hn rfl) q1 (cells_seg q3 q2 rfl) hn q2 hg c3 c4 _ (fun j kj hj => ?_) hk
              rcases happ_get hj with ⟨rfl, rfl⟩ | ⟨hjn, rfl, _, _, rfl⟩ | ⟨hjn, hji, hjp, hj⟩
              · exact .inl ⟨rfl, rfl⟩
              · refine .inr ⟨hjn, _, hrow_, .inr ⟨_, _, _, _, _, rfl, rfl⟩, fun q kq hq1 hq2 hq3 hq4 => ?_⟩
                rcases happ_get hq3 with ⟨rfl, _⟩ | ⟨_, rfl, _⟩ | ⟨_, _, hqp, _⟩
                · exact absurd rfl hq2
                · exact absurd rfl hq1
                · exact absurd hq4 hqp
              · exact .inr ⟨hjn, kj, hj, .inl rfl, fun _ _ _ _ _ h => h⟩
            · obtain ⟨c0, fz0, g1, g2, g3, g4⟩ := r.mem _ _ _ hrow_ hp
              have := g3 rfl; subst this
              have hcs : (l + n) * i.size ≤ c * i.size := Nat.mul_le_mul_right _ (by omega)
              have hmul : (l + n) * i.size = l * i.size + n * i.size := Nat.add_mul _ _ _
              have hfit : p.O + oa + l * i.size + nv.length ≤ c0.size := by rw [g2.1]; omega
              obtain ⟨L', e1, e2', e3⟩ := rh_happ r (hU _ _ _ hk) hrow_ hp (o := oa) (k := l * i.size) g1 q1 hnv q2 (fun j v hv => by have := q3 j v hv; rwa [add_at, cell_row g1] at this) hfit
              refine ⟨_, _, ds', L', _, _, hk, run_app_room ht htx hi (cells_seg hcell hn rfl) (by omega) ?_, .slc _ 0 (l + n) (l + n) false i.size _ c e1 (by omega) (Nat.le_refl _) (fun h => by cases h) ?_, e2', e3⟩
              · rw [add_at]
                have := run_storeCells_at P p.B (p.O + oa + l * i.size) e' nv 0 c0 w g1 (by simpa using hfit) (ones_rv hnv ho)
                simpa using this
              · show p.O + oa + 0 + c * i.size ≤ p.E
                omega
end
end
end Go.X
/- The operations of the abstract machine, all of them in one function. -/
set_option autoImplicit false
namespace Go.X
noncomputable section
section
variable {P : Program} {L : LM} {h : H} {w : World} {U : Nat} {m : Bool} {ds : List Bool} {K : KV}
theorem xapp_keep (r : RH L h w U) {t tx ty e e2 : TypeId} {i : TypeInfo} (ht : P.underlying t = some (.slice e)) (htx : P.underlying tx = some (.slice e2)) (hi : P.info? e = some i)
    {s : AV} {s' : Value} (hs : RV L s s') {xb : Option Addr} {xc : Nat} (hk : K s h ds) (hn : s = .nils ∨ (∃ i o l cap ex sz, s = .slc i o l cap ex sz)) :
    SemOK P (Builtin.append_ #[t, tx] ty #[s', .slice xb 0 xc]) L h w U K := by
  rcases hn with rfl | ⟨i, o, l, cap, ex, sz, rfl⟩
  · cases hs
    exact .same r hk (run_app_none ht htx hi (Nat.le_refl _) (fun a h => by cases h)) .nils
  · cases hs with
    | slc _ _ _ _ _ _ p c hp hc hl hxx he =>
      exact .same r hk (run_app_none ht htx hi (by omega) (fun a h => by cases h; rfl)) (.slc _ _ _ _ _ _ p c hp hc hl hxx he)
theorem xapp_emp (r : RH L h w U) {t tx ty e e2 : TypeId} {i : TypeInfo} (ht : P.underlying t = some (.slice e)) (htx : P.underlying tx = some (.slice e2)) (hi : P.info? e = some i)
    {s' : Value} (hs : RV L .emp s') {xb : Option Addr} {xc : Nat} (hk : K .emp h ds) :
    SemOK P (Builtin.append_ #[t, tx] ty #[s', .slice xb 0 xc]) L h w U K := by
  cases hs with
  | emp a c =>
    have hf : ∀ w : World, (Builtin.firstCells i.size 0 (.slice xb 0 xc)).run P w = .ok #[] w := by
      intro w; cases xb <;> simp [Builtin.firstCells, loadCells, loadCellsFrom]
    refine .same r hk (v' := .slice a 0 c) ?_ (.emp _ _)
    cases a <;> simp [Builtin.append_, run_underlying ht, run_underlying htx, sizeOf, typeInfo, hi, Builtin.lenOf, hf, storeCells]
theorem cellsAre_vals (r : RH L h w U) {i : Nat} {p : Loc} {g : Nat → CV} (hp : L i = some p) : ∀ (n o : Nat), cellsAre h i g n o → ∃ vs, RVs L (vcells g n o) vs ∧ vs.length = n ∧ ∀ j v, vs[j]? = some v → w.cell? ((⟨p.B, p.O + o, none⟩ : Addr).add j) = some v
  | 0, o, _ => ⟨[], .nil, rfl, fun j v h => by simp at h⟩
  | n + 1, o, hc => by
    rw [cellsAre_succ] at hc
    obtain ⟨h1, h2⟩ := hc
    obtain ⟨vs, a1, a2, a3⟩ := cellsAre_vals r hp n (o + 1) h2
    obtain ⟨cells, e, wr, ps, a, hi, hv, tr⟩ := cellIs_row h1
    obtain ⟨c, fz, g1, g2, g3, g4⟩ := r.mem _ _ _ hi hp
    obtain ⟨v', b1, b2⟩ := g4 _ _ hv
    refine ⟨v' :: vs, .cons _ _ _ _ (tr _ _ b2) a1, by simp [a2], fun j v hj => ?_⟩
    cases j with
    | zero =>
      simp at hj; subst hj
      rw [add_at, cell_row g1]; simpa using b1
    | succ j =>
      have := a3 j v (by simpa using hj)
      rw [add_at] at this ⊢
      rw [← this]; congr 2; omega
theorem xapp_sound (r : RH L h w U) (hU : ∀ v h' ds', K v h' ds' → h'.next ≤ U) {t tx ty : TypeId} {s x : AV} {s' x' : Value} (hs : RV L s s') (hx : RV L x x') (hk : xapp m P t tx s x h ds K) :
    SemOK P (Builtin.append_ #[t, tx] ty #[s', x']) L h w U K := by
  unfold xapp at hk
  split at hk <;> try exact hk.elim
  rename_i e e2 he he2
  have ht := elemT_some he
  have htx := elemT_some he2
  split at hk <;> try exact hk.elim
  rename_i sz zs by_ hsz hzs hby
  obtain ⟨i, z, hi, hz, hrv⟩ := zcells_some hzs
  obtain ⟨i', hi', hs'⟩ := sizeT_some hsz
  rw [hi] at hi'; cases hi'
  obtain ⟨i', hi', hy⟩ := bytesT_some hby
  rw [hi] at hi'; cases hi'
  split at hk <;> try exact hk.elim
  · cases hx
    split at hk <;> try exact hk.elim
    · exact xapp_keep r ht htx hi hs hk (.inl rfl)
    · exact xapp_keep r ht htx hi hs hk (.inr ⟨_, _, _, _, _, _, rfl⟩)
    · exact xapp_emp r ht htx hi hs hk
  · cases hx with
    | emp a c =>
      split at hk <;> try exact hk.elim
      · exact xapp_keep r ht htx hi hs hk (.inl rfl)
      · exact xapp_keep r ht htx hi hs hk (.inr ⟨_, _, _, _, _, _, rfl⟩)
      · exact xapp_emp r ht htx hi hs hk
  · rename_i j oj n cj exj szj
    obtain ⟨ds', hk⟩ := dcd_of hk
    cases hx with
    | slc _ _ _ _ _ _ p c hp hc hl hxx he0 =>
      cases h0 : Nat.beq n 0 with
      | true =>
        rw [h0] at hk
        have h0 := Nat.eq_of_beq_eq_true h0
        rw [h0]
        simp only at hk
        split at hk <;> try exact hk.elim
        · exact xapp_keep r ht htx hi hs hk (.inl rfl)
        · exact xapp_keep r ht htx hi hs hk (.inr ⟨_, _, _, _, _, _, rfl⟩)
        · exact xapp_emp r ht htx hi hs hk
      | false =>
        rw [h0] at hk
        have h0' : 0 < n := by
          rcases Nat.eq_zero_or_pos n with e | e
          · subst e; cases h0
          · exact e
        simp only at hk
        split at hk <;> try exact hk.elim
        rename_i cells e' wr ps hrow_
        obtain ⟨hb, hk⟩ := chk_of hk
        obtain ⟨b1, b2⟩ := band hb
        have b1 := Nat.eq_of_beq_eq_true b1
        have b2 := Nat.eq_of_beq_eq_true b2
        rw [llen_eq] at b1 b2
        rw [ltake_eq, ldrop_eq] at b2 hk
        obtain ⟨nv, q1, q2, q3⟩ := row_seg r hrow_ hp oj (n * sz) b2
        have hzl : z.cells.size = i.size := by have := (hrv L).length; simp at this; omega
        rw [← hs', ← hy] at hk
        rw [← hs'] at q1 q2
        exact xappN_sound r hU ht htx hi hz hzl hs q1 q2 h0' q3 hk
  · rename_i j oj n g
    obtain ⟨hb, hk⟩ := chk_of hk
    obtain ⟨b1, b2⟩ := band hb
    have b1 : 1 ≤ n := Nat.le_of_ble_eq_true b1
    obtain ⟨b3, b2⟩ := band b2
    have b2 := Nat.eq_of_beq_eq_true b2
    have b3 := Nat.eq_of_beq_eq_true b3
    rw [llen_eq] at b3
    obtain ⟨hc, hk⟩ := hk
    cases hx with
    | vs _ _ _ _ p c hp hcc he =>
      obtain ⟨nv, q1, q2, q3⟩ := cellsAre_vals r hp n oj hc
      have hzl : z.cells.size = i.size := by have := (hrv L).length; simp at this; omega
      rw [← hs', ← hy] at hk
      exact xappN_sound r hU ht htx hi hz hzl hs q1 (by rw [q2, show i.size = 1 from hs'.trans b2, Nat.mul_one]) (by omega) q3 hk
end

/-! len, conversions, unary operations -/
def xlen (P : Program) (t : TypeId) (x : AV) (h : H) (ds : List Bool) (K : KV) : Prop :=
  match P.underlying t with
  | some .string => match x with
    | .str n _ => K (.int .i64 (Int.ofNat n)) h ds
    | _ => False
  | some (.slice _) => match x with
    | .slc _ _ n _ _ _ => K (.int .i64 (Int.ofNat n)) h ds
    | .vs _ _ n _ => K (.int .i64 (Int.ofNat n)) h ds
    | .nils => K (.int .i64 0) h ds
    | .emp => K (.int .i64 0) h ds
    | _ => False
  | some (.array n _) => K (.int .i64 (Int.ofNat n)) h ds
  | some (.map _ _) => match x with
    | .nilm => K (.int .i64 0) h ds
    | .map i => match h.b.get i with
      | some (.map _ _ es) => K (.int .i64 (Int.ofNat (llen es))) h ds
      | _ => False
    | _ => False
  | _ => False
def xconv (m : Bool) (P : Program) (s t : TypeId) (x : AV) (h : H) (ds : List Bool) (K : KV) : Prop :=
  match P.underlying s, P.underlying t with
  | some _, some (.int k) => match x with
    | .int _ n => ari m k n ds fun v ds => K v h ds
    | _ => False
  | some _, some .string => match x with
    | .str n v => K (.str n v) h ds
    | _ => False
  | _, _ => False
def isU8 (P : Program) (e : TypeId) : Bool := match P.underlying e with
  | some (.int .u8) => true
  | _ => false
/-- a text as a slice of its bytes: a new block, that is only read -/
def xbytes (P : Program) (s t : TypeId) (x : AV) (h : H) (ds : List Bool) (K : KV) : Prop :=
  match P.underlying s with
  | some .string => match P.underlying t with
    | some (.slice e) => match x with
      | .str n v => Bool.rec False (K (.slc h.next 0 n n false 1) (hnew h (.bts n v e)) ds) (isU8 P e)
      | _ => False
    | _ => False
  | _ => False
def isSlcT (P : Program) (t : TypeId) : Bool := match P.underlying t with
  | some (.slice _) => true
  | _ => false
def isB (a : AV) : Bool := match a with
  | .int .u8 z => match z with
    | .ofNat c => Nat.ble c 255
    | .negSucc _ => false
  | _ => false
def valB (a : AV) : Nat := match a with
  | .int _ z => match z with
    | .ofNat c => c
    | .negSucc _ => 0
  | _ => 0
def allB (l : List AV) : Bool := List.rec true (fun a _ ih => Bool.and (isB a) ih) l
def packA (l : List AV) : Nat := List.rec 0 (fun a _ ih => Nat.add (valB a) (Nat.mul 256 ih)) l
/-- a slice's bytes as a text -/
def xstrb (P : Program) (s t : TypeId) (x : AV) (h : H) (ds : List Bool) (K : KV) : Prop :=
  match P.underlying s with
  | some (.slice e) => match P.underlying t with
    | some .string => match x with
      | .slc i o len _ _ sz => match h.b.get i with
        | some (.row cells _ _ _) => Bool.rec False (K (.str len (packA (ltake (ldrop cells o) len))) h ds)
            (Bool.and (isU8 P e) (Bool.and (Nat.beq sz 1) (Bool.and (Nat.beq (llen (ltake (ldrop cells o) len)) len) (allB (ltake (ldrop cells o) len)))))
        | _ => False
      | _ => False
    | _ => False
  | _ => False
def xun (m : Bool) (op : UnOp) (x : AV) (h : H) (ds : List Bool) (K : KV) : Prop :=
  match op, x with
  | .neg, .int k n => ari m k (0 - n) ds fun v ds => K v h ds
  | .xor, .int k n => xbits m .xor k (if k.signed then -1 else k.max) n ds fun v ds => K v h ds
  | .not, .bool b => K (.bool (Bool.not b)) h ds
  | _, _ => False
section
variable {P : Program} {L : LM} {h : H} {w : World} {U : Nat} {m : Bool} {ds : List Bool} {K : KV}
theorem REs.length {L : LM} : ∀ {es : List (AV × AV)} {ms : List MapEntry}, REs L es ms → es.length = ms.length
  | _, _, .nil => rfl
  | _, _, .cons _ _ _ _ _ hs => congrArg (· + 1) (REs.length hs)
theorem xlen_sound (r : RH L h w U) {t ty : TypeId} {x : AV} {x' : Value} (hx : RV L x x') (hk : xlen P t x h ds K) : SemOK P (Builtin.len_ #[t] ty #[x']) L h w U K := by
  unfold xlen at hk
  split at hk <;> try exact hk.elim
  · rename_i hu
    split at hk <;> try exact hk.elim
    cases hx with
    | str n v s hs =>
      obtain ⟨e1, _, _⟩ := strOf_str hs
      exact .same r hk (by simp [Builtin.len_, run_underlying hu, goInt, e1]) (.int _ _)
  · rename_i hu
    split at hk <;> try exact hk.elim
    · cases hx; exact .same r hk (by simp [Builtin.len_, run_underlying hu, goInt]) (.int _ _)
    · cases hx; exact .same r hk (by simp [Builtin.len_, run_underlying hu, goInt]) (.int _ _)
    · cases hx; exact .same r hk (by simp [Builtin.len_, run_underlying hu, goInt]) (.int _ _)
    · cases hx; exact .same r hk (by simp [Builtin.len_, run_underlying hu, goInt]) (.int _ _)
  · rename_i n e hu
    exact .same r hk (by cases x' <;> simp [Builtin.len_, run_underlying hu, goInt]) (.int _ _)
  · rename_i k v hu
    split at hk <;> try exact hk.elim
    · cases hx; exact .same r hk (by simp [Builtin.len_, run_underlying hu, goInt]) (.int _ _)
    · split at hk <;> try exact hk.elim
      rename_i es hi
      cases hx with
      | map _ p hp =>
        obtain ⟨ms, g1, g2, _⟩ := r.mem _ _ _ hi hp
        rw [llen_eq] at hk
        exact .same r hk (by simp [Builtin.len_, run_underlying hu, goInt, getObj, Sem.run, g1, g2.length]) (.int _ _)
theorem xconv_sound (r : RH L h w U) {s t : TypeId} {x : AV} {x' : Value} (hx : RV L x x') (hk : xconv m P s t x h ds K) : SemOK P (convert s t x') L h w U K := by
  unfold xconv at hk
  split at hk <;> try exact hk.elim
  · rename_i d k hs ht
    split at hk <;> try exact hk.elim
    cases hx
    obtain ⟨ds', hk⟩ := ari_of hk
    exact .same r hk (by simp [convert, run_underlying hs, run_underlying ht, Conv.intToInt]) (.int _ _)
  · rename_i d hs ht
    split at hk <;> try exact hk.elim
    cases hx with
    | str n v s hs' =>
      exact .same r hk (by cases d <;> simp [convert, run_underlying hs, run_underlying ht]) (.str _ _ _ hs')
theorem bytesOf_pack : ∀ (l : List UInt8), bytesOf l.length (pack l) = l.map fun b => .int .u8 (Int.ofNat b.toNat)
  | [] => rfl
  | b :: l => by
    have h := b.toNat_lt
    have hp := pack_cons b l
    show AV.int .u8 (Int.ofNat (pack (b :: l) % 256)) :: bytesOf l.length (pack (b :: l) / 256) = _
    have e1 : pack (b :: l) % 256 = b.toNat := by omega
    have e2 : pack (b :: l) / 256 = pack l := by omega
    rw [e1, e2, bytesOf_pack l]; rfl
theorem isU8_iff {e : TypeId} (h : isU8 P e = true) : P.underlying e = some (.int .u8) := by
  unfold isU8 at h
  split at h
  · assumption
  · cases h
theorem bytes_cells {n v : Nat} {z : ByteArray} (hz : strOf z = .str n v) {c : Nat} (hc : z.size ≤ c) (L : LM) (k : Nat) (u : AV) (hk : (bytesOf n v)[k]? = some u) :
    ∃ v', (bytesRow z c)[0 + k]? = some v' ∧ RV L u v' := by
  obtain ⟨e1, e2, e3⟩ := strOf_str hz
  rw [e3, ← e2, bytesOf_pack, List.getElem?_map] at hk
  cases hb : z.data.toList[k]? with
  | none => rw [hb] at hk; cases hk
  | some b =>
    rw [hb] at hk
    simp at hk
    subst hk
    refine ⟨.int .u8 (Int.ofNat b.toNat), ?_, .int _ _⟩
    rw [Nat.zero_add]
    have hk2 : k < z.data.size := by have := (List.getElem?_eq_some_iff.1 hb).1; simpa using this
    unfold bytesRow
    rw [Array.getElem?_append_left (by simpa using hk2)]
    have hb' : z.data[k]? = some b := by simpa using hb
    simp [hb']
theorem xbytes_sound (r : RH L h w U) (hU : ∀ v h' ds', K v h' ds' → h'.next ≤ U) {s t : TypeId} {x : AV} {x' : Value} (hx : RV L x x') (hk : xbytes P s t x h ds K) : SemOK P (convert s t x') L h w U K := by
  unfold xbytes at hk
  split at hk <;> try exact hk.elim
  rename_i hs
  split at hk <;> try exact hk.elim
  rename_i e ht
  split at hk <;> try exact hk.elim
  rename_i n v
  cases hx with
  | str _ _ z hz =>
    cases hu : isU8 P e with
    | false => rw [hu] at hk; exact hk.elim
    | true =>
      rw [hu] at hk
      have hk : K (.slc h.next 0 n n false 1) (hnew h (.bts n v e)) ds := hk
      obtain ⟨e1, e2, e3⟩ := strOf_str hz
      have hrun := run_bytes_of_string w s t e z hs ht (isU8_iff hu)
      have hge := grownCap_ge w z.size 0 e
      have rd : RH L h w.drew U := r.heap rfl
      have hsz : (bytesRow z (grownCap w z.size 0 e)).size = grownCap w z.size 0 e := by
        unfold bytesRow; simp
        have : z.data.size = z.size := rfl
        omega
      obtain ⟨L', g1, g2, g3⟩ := rh_new rd (hU _ _ _ hk) (.bts n v e) (.cells (bytesRow z (grownCap w z.size 0 e)) e ((bytesRow z (grownCap w z.size 0 e)).size, (bytesRow z (grownCap w z.size 0 e)).size + 1))
        (fun a ha => by
          unfold World.frozen?
          simp only [World.alloc, Array.getElem?_push]
          rw [if_neg (by omega)])
        (bytesRow z (grownCap w z.size 0 e)).size (fun L' hx => ⟨_, _, alloc_new _ _, ⟨rfl, Nat.zero_le _⟩, fun k u hku => bytes_cells hz hge L' k u hku⟩)
      refine ⟨_, _, ds, L', _, _, hk, hrun, ?_, g2, ⟨g3.ext, g3.size, g3.keep, g3.own, g3.new, g3.next, g3.os, g3.output, g3.tape, g3.fro⟩⟩
      rw [e1]
      refine .slc _ 0 n n false 1 _ _ g1 (by rw [← e1]; exact hge) (Nat.le_refl _) (fun h => by cases h) ?_
      simp
      rw [hsz, e1]; exact Nat.le_refl _
theorem tt_and {a b : Bool} (h : Bool.and a b = true) : a = true ∧ b = true := by
  cases a <;> cases b <;> first | exact ⟨rfl, rfl⟩ | cases h
theorem isB_iff {a : AV} (h : isB a = true) : ∃ b : UInt8, a = .int .u8 (Int.ofNat b.toNat) := by
  unfold isB at h
  split at h <;> try (cases h; done)
  split at h <;> try (cases h; done)
  rename_i c
  have hc : c < 256 := by have := Nat.le_of_ble_eq_true h; omega
  exact ⟨UInt8.ofNat c, by simp [Nat.mod_eq_of_lt hc]⟩
theorem allB_iff : ∀ {l : List AV}, allB l = true → ∃ bs : List UInt8, l = bs.map (fun b => AV.int .u8 (Int.ofNat b.toNat)) ∧ packA l = pack bs
  | [], _ => ⟨[], rfl, rfl⟩
  | a :: l, h => by
    have h : Bool.and (isB a) (allB l) = true := h
    obtain ⟨h1, h2⟩ := tt_and h
    obtain ⟨b, rfl⟩ := isB_iff h1
    obtain ⟨bs, rfl, hp⟩ := allB_iff h2
    exact ⟨b :: bs, rfl, congrArg (fun n => Nat.add b.toNat (Nat.mul 256 n)) hp⟩
theorem xstrb_sound (r : RH L h w U) {s t : TypeId} {x : AV} {x' : Value} (hx : RV L x x') (hk : xstrb P s t x h ds K) : SemOK P (convert s t x') L h w U K := by
  unfold xstrb at hk
  split at hk <;> try exact hk.elim
  rename_i e hs
  split at hk <;> try exact hk.elim
  rename_i ht
  split at hk <;> try exact hk.elim
  rename_i i o len cap ex sz
  split at hk <;> try exact hk.elim
  rename_i cells el wr ps hi
  cases hb : Bool.and (isU8 P e) (Bool.and (Nat.beq sz 1) (Bool.and (Nat.beq (llen (ltake (ldrop cells o) len)) len) (allB (ltake (ldrop cells o) len)))) with
  | false => rw [hb] at hk; exact hk.elim
  | true =>
    rw [hb] at hk
    have hk : K (.str len (packA (ltake (ldrop cells o) len))) h ds := hk
    obtain ⟨b1, hb⟩ := tt_and hb
    obtain ⟨b2, hb⟩ := tt_and hb
    obtain ⟨b3, b4⟩ := tt_and hb
    obtain ⟨bs, e1, e2⟩ := allB_iff b4
    have b3 := natBeq_iff.1 b3
    rw [llen_eq, e1, List.length_map] at b3
    cases hx with
    | slc _ _ _ _ _ _ p c hp hc hl hx he =>
      obtain ⟨c1, fz, g1, g2, g3, g4⟩ := r.mem _ _ _ hi hp
      have hcell : ∀ j (hj : j < bs.length), w.cell? ((⟨p.B, p.O + o, none⟩ : Addr).add j) = some (.int .u8 (bs[j].toNat : Int)) := by
        intro j hj
        have hj2 : (ltake (ldrop cells o) len)[j]? = some (.int .u8 (Int.ofNat bs[j].toNat)) := by
          rw [e1, List.getElem?_map, List.getElem?_eq_getElem hj]; rfl
        rw [ltake_eq, ldrop_eq, List.getElem?_take] at hj2
        split at hj2
        · rw [List.getElem?_drop] at hj2
          obtain ⟨v', k1, k2⟩ := g4 _ _ hj2
          cases k2
          have ea : (⟨p.B, p.O + o, none⟩ : Addr).add j = ⟨p.B, p.O + o + j, none⟩ := by simp [Addr.add]
          rw [ea]
          unfold World.cell?
          rw [g1]
          simp only
          rw [show p.O + o + j = p.O + (o + j) by omega]
          exact k1
        · cases hj2
      have hrun := run_convert_bytes_back (P := P) w s t e ⟨p.B, p.O + o, none⟩ c bs hs (isU8_iff b1) ht hcell
      rw [b3] at hrun
      refine .same r hk hrun (.str _ _ _ ?_)
      show AV.str (llen _) (pack _) = _
      rw [llen_eq, e2]
      simp [b3]
theorem xun_sound (r : RH L h w U) {op : UnOp} {x : AV} {x' : Value} (hx : RV L x x') (hk : xun m op x h ds K) : SemOK P (Op.unary op x') L h w U K := by
  unfold xun at hk
  split at hk <;> try exact hk.elim
  · cases hx
    obtain ⟨ds', hk⟩ := ari_of hk
    exact .same r hk (by simp [Op.unary, Op.intArith]) (.int _ _)
  · cases hx
    exact xbits_sound (P := P) r hk
  · cases hx
    exact .same r hk (by simp [Op.unary]) (.bool _)
end

/-! Equality -/
def xeqL (P : Program) (t : TypeId) (x y : AV) : Option Bool :=
  match P.underlying t, x, y with
  | some .bool, .bool a, .bool b => some (Bool.rec (Bool.not b) b a)
  | some (.int _), .int k a, .int k' b => Bool.rec none (some (eqI a b)) (Nat.beq (IntKind.num k) (IntKind.num k'))
  | some .string, .str n v, .str n' v' => some (Bool.and (Nat.beq n n') (Nat.beq v v'))
  | some (.pointer _), .nilp, .nilp => some true
  | some (.pointer _), .nilp, .ptr _ _ => some false
  | some (.pointer _), .ptr _ _, .nilp => some false
  | some (.slice _), .nils, .nils => some true
  | some (.slice _), .nils, .slc _ _ _ _ _ _ => some false
  | some (.slice _), .slc _ _ _ _ _ _, .nils => some false
  | some (.map _ _), .nilm, .nilm => some true
  | some (.map _ _), .nilm, .map _ => some false
  | some (.map _ _), .map _, .nilm => some false
  | some (.func _ _ _), .nilf, .nilf => some true
  | some (.func _ _ _), .nilf, .fn _ _ _ => some false
  | some (.func _ _ _), .fn _ _ _, .nilf => some false
  | some (.interface _), .nili, .ifc _ _ => some false
  | some (.interface _), .ifc _ _, .nili => some false
  | _, _, _ => none
def partL (P : Program) (t : TypeId) (cs : List AV) (off : Nat) : Option AV :=
  match shapeT P t with
  | some none => lget cs off
  | some (some n) => Bool.rec none (some (.agg (ltake (ldrop cs off) n))) (Nat.beq (llen (ltake (ldrop cs off) n)) n)
  | none => none
def xeqF (P : Program) (eq : TypeId → AV → AV → Option Bool) (xs ys : List AV) (fs : List Field) : Option Bool :=
  List.rec (some true) (fun f _ ih => Bool.rec (match partL P f.type xs f.offset, partL P f.type ys f.offset with
    | some a, some b => match eq f.type a b, ih with
      | some r, some r' => some (Bool.and r r')
      | _, _ => none
    | _, _ => none) ih (decide (f.name = "_"))) fs
def xeqT (P : Program) (d : Nat) : TypeId → AV → AV → Option Bool :=
  Nat.rec (fun _ _ _ => none) (fun _ ih t x y => match P.underlying t with
    | some (.struct fs) => match x, y with
      | .agg xs, .agg ys => Bool.rec (xeqF P ih xs ys fs.toList) none (P.stoodInHeld t)
      | _, _ => none
    | _ => xeqL P t x y) d
section
variable {P : Program} {L : LM} {w : World}
theorem bool_eq' (a b : Bool) : (Bool.rec (Bool.not b) b a : Bool) = (a == b) := by cases a <;> cases b <;> rfl
theorem xeqL_sound {t : TypeId} {x y : AV} {x' y' : Value} {b : Bool} (hx : RV L x x') (hy : RV L y y') (hb : xeqL P t x y = some b) (D : Nat) :
    (Op.equalIn (D + 1) t x' y').run P w = .ok b w := by
  unfold xeqL at hb
  split at hb <;> try cases hb
  · rename_i hu; cases hx; cases hy; rw [bool_eq']; simp [Op.equalIn, run_underlying hu]
  · rename_i hu
    cases hx; cases hy
    rename_i k a k' b'
    cases hk : Nat.beq (IntKind.num k) (IntKind.num k') with
    | false => rw [hk] at hb; cases hb
    | true =>
      rw [hk] at hb; cases hb
      have := kind_num hk; subst this
      rw [eqI_eq]; simp [Op.equalIn, run_underlying hu]
  · rename_i hu
    cases hx with
    | str n v s hs => cases hy with
      | str n' v' s' hs' =>
        have := ba_beq hs hs'
        simp only [Op.equalIn, Sem.run_bind, run_underlying hu, Result.andThen_ok, Sem.run_pure, beq_toListBytes, this]
  all_goals (rename_i hu; cases hx; cases hy; simp [Op.equalIn, run_underlying hu])
theorem partL_sound {t : TypeId} {cs : List AV} {off : Nat} {vs : Array Value} {a : AV} (h : RVs L cs vs.toList) (ha : partL P t cs off = some a) :
    ∃ v', (part t vs off).run P w = .ok v' w ∧ RV L a v' := by
  obtain ⟨v, v', e, h1, h2⟩ := xpart_sound (m := false) (P := P) (w := w) (t := t) (off := off) (K := fun v => v = a) h (by
    unfold partL at ha
    unfold xpart
    split at ha
    · rename_i hs
      rw [hs]
      simp only
      rw [ha]
    · rename_i n hs
      rw [hs]
      cases hb : Nat.beq (llen (ltake (ldrop cs off) n)) n with
      | true => rw [hb] at ha; cases ha; simp only; rw [hb]; trivial
      | false => rw [hb] at ha; cases ha
    · cases ha)
  exact ⟨v', h1, e ▸ h2⟩
theorem xeqF_sound (eq : TypeId → AV → AV → Option Bool) (D : Nat)
    (ih : ∀ {t : TypeId} {x y : AV} {x' y' : Value} {b : Bool}, RV L x x' → RV L y y' → eq t x y = some b → (Op.equalIn D t x' y').run P w = .ok b w)
    {xs ys : List AV} {xs' ys' : Array Value} (hx : RVs L xs xs'.toList) (hy : RVs L ys ys'.toList) : ∀ (fs : List Field) {b : Bool}, xeqF P eq xs ys fs = some b →
    (Op.eqFields D xs' ys' fs).run P w = .ok b w
  | [], b, hb => by cases hb; rfl
  | f :: fs, b, hb => by
    have hb : (Bool.rec (match partL P f.type xs f.offset, partL P f.type ys f.offset with
      | some a, some b => match eq f.type a b, xeqF P eq xs ys fs with
        | some r, some r' => some (Bool.and r r')
        | _, _ => none
      | _, _ => none) (xeqF P eq xs ys fs) (decide (f.name = "_")) : Option Bool) = some b := hb
    cases hn : decide (f.name = "_") with
    | true =>
      rw [hn] at hb
      have hn : f.name = "_" := by simpa using hn
      simp only [Op.eqFields, hn, ne_eq, not_true_eq_false, if_false]
      exact xeqF_sound eq D ih hx hy fs hb
    | false =>
      rw [hn] at hb
      have hn : f.name ≠ "_" := by simpa using hn
      simp only at hb
      split at hb <;> try cases hb
      rename_i a c ha hc
      split at hb <;> try cases hb
      rename_i q q' hq hq'
      obtain ⟨a', e1, e2⟩ := partL_sound (w := w) hx ha
      obtain ⟨c', f1, f2⟩ := partL_sound (w := w) hy hc
      have g := ih e2 f2 hq
      have hrec := xeqF_sound eq D ih hx hy fs hq'
      simp only [Op.eqFields, ne_eq, hn, not_false_eq_true, if_true, Sem.run_bind, e1, Result.andThen_ok, f1, g, Sem.run_ite]
      cases q with
      | false => simp
      | true => simpa using hrec
theorem xeqT_succ (d : Nat) (t : TypeId) (x y : AV) : xeqT P (d + 1) t x y = (match P.underlying t with
    | some (.struct fs) => match x, y with
      | .agg xs, .agg ys => (Bool.rec (xeqF P (xeqT P d) xs ys fs.toList) none (P.stoodInHeld t) : Option Bool)
      | _, _ => none
    | _ => xeqL P t x y) := rfl
theorem xeqT_sound : ∀ (d : Nat) {t : TypeId} {x y : AV} {x' y' : Value} {b : Bool}, RV L x x' → RV L y y' → xeqT P d t x y = some b → ∀ D, d ≤ D → (Op.equalIn D t x' y').run P w = .ok b w
  | 0, t, x, y, x', y', b, _, _, hb, _, _ => by cases hb
  | d + 1, t, x, y, x', y', b, hx, hy, hb, D, hD => by
    obtain ⟨D, rfl⟩ : ∃ D', D = D' + 1 := ⟨D - 1, by omega⟩
    rw [xeqT_succ] at hb
    split at hb
    · rename_i fs hu
      split at hb <;> try cases hb
      rename_i xs ys
      cases hs : P.stoodInHeld t with
      | true => rw [hs] at hb; cases hb
      | false =>
        rw [hs] at hb
        have hfs : P.fieldsOf t = fs := by simp [Program.fieldsOf, hu]
        cases hx with
        | agg _ xs' hxs => cases hy with
          | agg _ ys' hys =>
            rw [run_equalIn_struct w D t xs' ys' (by rw [hfs]; exact hu) hs, hfs]
            exact xeqF_sound (xeqT P d) D (fun a b c => xeqT_sound d a b c D (by omega)) hxs hys _ hb
    · exact xeqL_sound hx hy hb D
end
end
end Go.X

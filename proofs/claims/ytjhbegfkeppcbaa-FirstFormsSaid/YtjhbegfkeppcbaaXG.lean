/- The operations of the abstract machine: slicing, making, appending. -/
import Derived.Test.YtjhbegfkeppcbaaXF
set_option autoImplicit false
namespace Go.X
noncomputable section

/-- a bound of a slice expression; none: it is not given -/
def bnd (x : Option AV) (d : Nat) (K : Nat → Prop) : Prop := match x with
  | none => K d
  | some (.int _ n) => match n with
    | .ofNat k => K k
    | .negSucc _ => False
  | _ => False
def xslice (m : Bool) (P : Program) (t : TypeId) (x : AV) (lo hi mx : Option AV) (h : H) (ds : List Bool) (K : KV) : Prop :=
  match P.underlying t with
  | some .string => match x, mx with
    | .str n v, none => bnd hi n fun hv => bnd lo 0 fun lv => chk m (Bool.and (Nat.ble hv n) (Nat.ble lv hv)) (K (.str (Nat.sub hv lv) (subV v lv hv)) h ds)
    | _, _ => False
  | some (.slice e) => match sizeT P e with
    | some z => match x with
      | .slc i o len cap ex sz => match mx with
        | none => bnd hi len fun hv => bnd lo 0 fun lv => chk m (Bool.and (Nat.ble hv cap) (Bool.and (Nat.ble lv hv) (Nat.beq sz z)))
            (dcd m (Nat.ble (Nat.succ lv) cap) ds fun b ds => Bool.rec (Bool.rec (K .emp h ds) (K (.slc i o hv cap ex sz) h ds) (Nat.beq lv 0))
              (K (.slc i (Nat.add o (Nat.mul lv sz)) (Nat.sub hv lv) (Nat.sub cap lv) ex sz) h ds) b)
        | some mv => match hi with
          | none => False
          | some hvv => bnd (some mv) 0 fun mv => bnd (some hvv) len fun hv => bnd lo 0 fun lv => chk m (Bool.and (Nat.ble mv cap) (Bool.and (Nat.ble hv mv) (Bool.and (Nat.ble lv hv) (Nat.beq sz z))))
            (dcd m (Nat.ble (Nat.succ lv) mv) ds fun b ds => Bool.rec (K .emp h ds) (K (.slc i (Nat.add o (Nat.mul lv sz)) (Nat.sub hv lv) (Nat.sub mv lv) true sz) h ds) b)
      | .nils => match mx with
        | none => bnd hi 0 fun hv => bnd lo 0 fun lv => chk m (Bool.and (Nat.beq hv 0) (Nat.beq lv 0)) (K .nils h ds)
        | some _ => False
      | .emp => match mx with
        | none => bnd hi 0 fun hv => bnd lo 0 fun lv => chk m (Bool.and (Nat.beq hv 0) (Nat.beq lv 0)) (K .emp h ds)
        | some _ => False
      | _ => False
    | none => False
  | _ => False

inductive RO (L : LM) : Option AV → Option Value → Prop where
  | none : RO L none none
  | some (a : AV) (v : Value) (h : RV L a v) : RO L (some a) (some v)

section
variable {P : Program} {L : LM} {h : H} {w : World} {U : Nat} {m : Bool} {ds : List Bool} {K : KV}
theorem bnd_some {x : Option AV} {x' : Option Value} (hx : RO L x x') {d : Nat} {K : Nat → Prop} (hk : bnd x d K) :
    (x = none ∧ x' = none ∧ K d) ∨ ∃ (k : IntKind) (n : Nat), x' = some (.int k (n : Int)) ∧ K n ∧ x = some (.int k (n : Int)) := by
  unfold bnd at hk
  split at hk <;> try exact hk.elim
  · cases hx; exact .inl ⟨rfl, rfl, hk⟩
  · split at hk <;> try exact hk.elim
    cases hx with
    | some a v hv => cases hv; exact .inr ⟨_, _, rfl, hk, rfl⟩
theorem run_sliceBound {k : IntKind} {n y : Nat} {code : BoundsCode} (hn : n ≤ y) : (Instr.sliceBound (.int k (n : Int)) y code).run P w = .ok n w := by
  have h1 : (0 : Int) ≤ (n : Int) ∧ (n : Int) ≤ (y : Int) := ⟨by omega, by omega⟩
  simp [Instr.sliceBound, asIntOf, h1]
theorem run_sliceBounds {isSlice : Bool} {len cap : Nat} {lo hi : Option Value} {lv hv : Nat}
    (hhi : (hi = none ∧ hv = len) ∨ ∃ k, hi = some (.int k (hv : Int))) (hlo : (lo = none ∧ lv = 0) ∨ ∃ k, lo = some (.int k (lv : Int))) (h1 : hv ≤ cap) (h2 : lv ≤ hv) :
    (Instr.sliceBounds isSlice len cap lo hi none).run P w = .ok (lv, hv, cap) w := by
  rcases hhi with ⟨rfl, rfl⟩ | ⟨k, rfl⟩ <;> rcases hlo with ⟨rfl, rfl⟩ | ⟨k', rfl⟩ <;> simp [Instr.sliceBounds, run_sliceBound, h1, h2]
theorem run_sliceBounds3 {isSlice : Bool} {len cap : Nat} {lo : Option Value} {lv hv mv : Nat} {k k2 : IntKind}
    (hlo : (lo = none ∧ lv = 0) ∨ ∃ k, lo = some (.int k (lv : Int))) (h0 : mv ≤ cap) (h1 : hv ≤ mv) (h2 : lv ≤ hv) :
    (Instr.sliceBounds isSlice len cap lo (some (.int k (hv : Int))) (some (.int k2 (mv : Int)))).run P w = .ok (lv, hv, mv) w := by
  rcases hlo with ⟨rfl, rfl⟩ | ⟨k', rfl⟩ <;> simp [Instr.sliceBounds, run_sliceBound, h0, h1, h2]
theorem bnd_form {x : Option AV} {x' : Option Value} (hx : RO L x x') {d : Nat} {K : Nat → Prop} (hk : bnd x d K) :
    ∃ n, K n ∧ ((x' = none ∧ n = d) ∨ ∃ k, x' = some (.int k (n : Int))) := by
  rcases bnd_some hx hk with ⟨_, rfl, hk⟩ | ⟨k, n, rfl, hk, _⟩
  · exact ⟨d, hk, .inl ⟨rfl, rfl⟩⟩
  · exact ⟨n, hk, .inr ⟨k, rfl⟩⟩
theorem band {a b : Bool} (h : Bool.and a b = true) : a = true ∧ b = true := by cases a <;> cases b <;> first | exact ⟨rfl, rfl⟩ | cases h
theorem str_extract {s : ByteArray} {n v : Nat} (hs : strOf s = .str n v) {l k : Nat} (h1 : k ≤ n) (h2 : l ≤ k) : strOf (s.extract l k) = .str (Nat.sub k l) (subV v l k) := by
  obtain ⟨e1, e2, rfl⟩ := strOf_str hs
  rw [strOf_eq, subV_eq]
  have hd : (s.extract l k).data.toList = (s.data.toList.drop l).take (k - l) := by
    rw [ByteArray.data_extract, Array.toList_extract, List.extract_eq_take_drop]
  rw [hd]
  congr 1
  have : (s.extract l k).size = (s.extract l k).data.toList.length := rfl
  rw [this, hd]
  simp
  omega
theorem xslice_sound (r : RH L h w U) {t : TypeId} {x : AV} {x' : Value} {lo hi mx : Option AV} {lo' hi' mx' : Option Value} (hx : RV L x x') (hlo : RO L lo lo') (hhi : RO L hi hi') (hmx : RO L mx mx')
    (hk : xslice m P t x lo hi mx h ds K) : SemOK P (Instr.slice t x' lo' hi' mx') L h w U K := by
  unfold xslice at hk
  split at hk <;> try exact hk.elim
  · rename_i hu
    split at hk <;> try exact hk.elim
    cases hx with
    | str n v s hs =>
      cases hmx
      obtain ⟨hv, hk, e1⟩ := bnd_form hhi hk
      obtain ⟨lv, hk, e2⟩ := bnd_form hlo hk
      obtain ⟨hb, hk⟩ := chk_of hk
      obtain ⟨b1, b2⟩ := band hb
      have b1 := Nat.le_of_ble_eq_true b1
      have b2 := Nat.le_of_ble_eq_true b2
      obtain ⟨s1, _, _⟩ := strOf_str hs
      refine .same r hk (v' := .string (s.extract lv hv)) ?_ (.str _ _ _ (str_extract hs b1 b2))
      have hb := run_sliceBounds (P := P) (w := w) (isSlice := false) (len := s.size) (cap := s.size) (by rw [s1]; exact e1) e2 (by rw [s1]; exact b1) b2
      simp [Instr.slice, run_underlying hu, hb]
  · rename_i e hu
    split at hk <;> try exact hk.elim
    rename_i z hz
    split at hk <;> try exact hk.elim
    · rename_i i o len cap ex sz
      cases hx with
      | slc _ _ _ _ _ _ p c hp hc hl hxx he =>
        split at hk
        · cases hmx
          obtain ⟨hv, hk, e1⟩ := bnd_form hhi hk
          obtain ⟨lv, hk, e2⟩ := bnd_form hlo hk
          obtain ⟨hb, hk⟩ := chk_of hk
          obtain ⟨b1, b2⟩ := band hb
          obtain ⟨b2, b3⟩ := band b2
          have b1 := Nat.le_of_ble_eq_true b1
          have b2 := Nat.le_of_ble_eq_true b2
          rw [← Nat.eq_of_beq_eq_true b3] at hz
          have hb := run_sliceBounds (P := P) (w := w) (isSlice := true) (len := len) (cap := c) e1 e2 (by omega) b2
          obtain ⟨ds', hk⟩ := dcd_of hk
          cases hd : Nat.ble (Nat.succ lv) cap with
          | true =>
            rw [hd] at hk
            have hd := Nat.le_of_ble_eq_true hd
            have hne : ¬ c = lv := by omega
            have hmul : (c - lv) * sz = c * sz - lv * sz := Nat.sub_mul _ _ _
            have hle : lv * sz ≤ c * sz := Nat.mul_le_mul_right _ (by omega)
            refine .same r hk (v' := .slice (some ⟨p.B, p.O + (o + lv * sz), none⟩) (hv - lv) (c - lv)) ?_ (.slc i _ _ _ _ _ p _ hp (Nat.sub_le_sub_right hc _) (Nat.sub_le_sub_right b1 _) (fun e => by rw [hxx e]; rfl) ?_)
            · simp [Instr.slice, run_underlying hu, hb, run_sizeT hz, hne, add_at, Nat.add_assoc]
            · show p.O + (o + lv * sz) + (c - lv) * sz ≤ p.E
              omega
          | false =>
            rw [hd] at hk
            have hd : ¬ lv + 1 ≤ cap := fun h => by rw [Nat.ble_eq_true_of_le h] at hd; cases hd
            have e3 : hv = lv := by omega
            cases h0 : Nat.beq lv 0 with
            | true =>
              rw [h0] at hk
              have h0 := Nat.eq_of_beq_eq_true h0
              subst h0
              refine .same r hk (v' := .slice (some ⟨p.B, p.O + o, none⟩) hv c) ?_ (.slc i _ _ _ _ _ p _ hp hc b1 hxx he)
              simp [Instr.slice, run_underlying hu, hb, run_sizeT hz, Addr.add]
            | false =>
              rw [h0] at hk
              refine .same r hk (v' := .slice (if c = lv then some ⟨p.B, p.O + o, none⟩ else some ((⟨p.B, p.O + o, none⟩ : Addr).add (lv * sz))) 0 (c - lv)) ?_ (.emp _ _)
              simp [Instr.slice, run_underlying hu, hb, run_sizeT hz, e3]
        · rename_i mv
          split at hk <;> try exact hk.elim
          rename_i hvv
          obtain ⟨mvn, hk, em⟩ := bnd_form hmx hk
          rcases em with ⟨em, _⟩ | ⟨k2, rfl⟩
          · subst em; cases hmx
          obtain ⟨hv, hk, e1⟩ := bnd_form hhi hk
          obtain ⟨lv, hk, e2⟩ := bnd_form hlo hk
          obtain ⟨hb, hk⟩ := chk_of hk
          obtain ⟨b1, b2⟩ := band hb
          obtain ⟨b2, b3⟩ := band b2
          obtain ⟨b3, b4⟩ := band b3
          have b1 := Nat.le_of_ble_eq_true b1
          have b2 := Nat.le_of_ble_eq_true b2
          have b3 := Nat.le_of_ble_eq_true b3
          rw [← Nat.eq_of_beq_eq_true b4] at hz
          obtain ⟨ds', hk⟩ := dcd_of hk
          cases hhi with
          | some _ v hav =>
            rcases e1 with ⟨e1, _⟩ | ⟨k1, e1⟩
            · cases e1
            cases e1
            have hb := run_sliceBounds3 (P := P) (w := w) (isSlice := true) (len := len) (cap := c) (k := k1) (k2 := k2) e2 (by omega) b2 b3
            cases hd : Nat.ble (Nat.succ lv) mvn with
            | true =>
              rw [hd] at hk
              have hd := Nat.le_of_ble_eq_true hd
              have hne : ¬ mvn = lv := by omega
              have hmul : (mvn - lv) * sz = mvn * sz - lv * sz := Nat.sub_mul _ _ _
              have hle : lv * sz ≤ mvn * sz := Nat.mul_le_mul_right _ (by omega)
              have hle2 : mvn * sz ≤ c * sz := Nat.mul_le_mul_right _ (by omega)
              refine .same r hk (v' := .slice (some ⟨p.B, p.O + (o + lv * sz), none⟩) (hv - lv) (mvn - lv)) ?_ (.slc i _ _ _ _ _ p _ hp (Nat.le_refl _) (Nat.sub_le_sub_right b2 _) (fun e => rfl) ?_)
              · simp [Instr.slice, run_underlying hu, hb, run_sizeT hz, hne, add_at, Nat.add_assoc]
              · show p.O + (o + lv * sz) + (mvn - lv) * sz ≤ p.E
                omega
            | false =>
              rw [hd] at hk
              have hd : ¬ lv + 1 ≤ mvn := fun h => by rw [Nat.ble_eq_true_of_le h] at hd; cases hd
              have e3 : hv = lv := by omega
              rw [e3] at hb
              refine .same r hk (v' := .slice (if mvn = lv then some ⟨p.B, p.O + o, none⟩ else some ((⟨p.B, p.O + o, none⟩ : Addr).add (lv * sz))) 0 (mvn - lv)) ?_ (.emp _ _)
              simp [Instr.slice, run_underlying hu, hb, run_sizeT hz, e3]
    · cases hx
      split at hk <;> try exact hk.elim
      cases hmx
      obtain ⟨hv, hk, e1⟩ := bnd_form hhi hk
      obtain ⟨lv, hk, e2⟩ := bnd_form hlo hk
      obtain ⟨hb, hk⟩ := chk_of hk
      obtain ⟨b1, b2⟩ := band hb
      have b1 := Nat.eq_of_beq_eq_true b1
      have b2 := Nat.eq_of_beq_eq_true b2
      rw [b1] at e1
      rw [b2] at e2
      have hb := run_sliceBounds (P := P) (w := w) (isSlice := true) (len := 0) (cap := 0) e1 e2 (Nat.le_refl _) (Nat.le_refl _)
      exact .same r hk (v' := .slice none 0 0) (by simp [Instr.slice, run_underlying hu, hb, run_sizeT hz]) .nils
    · cases hx with
      | emp a c =>
        split at hk <;> try exact hk.elim
        cases hmx
        obtain ⟨hv, hk, e1⟩ := bnd_form hhi hk
        obtain ⟨lv, hk, e2⟩ := bnd_form hlo hk
        obtain ⟨hb, hk⟩ := chk_of hk
        obtain ⟨b1, b2⟩ := band hb
        have b1 := Nat.eq_of_beq_eq_true b1
        have b2 := Nat.eq_of_beq_eq_true b2
        rw [b1] at e1
        rw [b2] at e2
        have hb := run_sliceBounds (P := P) (w := w) (isSlice := true) (len := 0) (cap := c) e1 e2 (Nat.zero_le _) (Nat.le_refl _)
        refine .same r hk (v' := .slice (if c = 0 then a else a.map (·.add (0 * z))) 0 (c - 0)) ?_ (.emp _ _)
        simp [Instr.slice, run_underlying hu, hb, run_sizeT hz]
end
end
end Go.X

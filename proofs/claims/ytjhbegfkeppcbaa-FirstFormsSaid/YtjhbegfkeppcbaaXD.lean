/- The operations of the abstract machine that compute or look into memory, and that the model's do as they do. -/
import Derived.Test.YtjhbegfkeppcbaaXC
import Derived.Laws.Tables
import Derived.Laws.StructEq
import Derived.Laws.Small
import Derived.Laws.Strings
set_option autoImplicit false
namespace Go.X
noncomputable section

abbrev KV := AV → H → List Bool → Prop

def SemOK (P : Program) (s : Sem Value) (L : LM) (h : H) (w : World) (U : Nat) (K : KV) : Prop :=
  ∃ v h' ds' L' v' w', K v h' ds' ∧ s.run P w = .ok v' w' ∧ RV L' v v' ∧ RH L' h' w' U ∧ Step L L' h h' w w'
theorem SemOK.same {P : Program} {s : Sem Value} {L : LM} {h : H} {w : World} {U : Nat} {K : KV} (r : RH L h w U) {v : AV} {ds : List Bool} {v' : Value}
    (hk : K v h ds) (hr : s.run P w = .ok v' w) (hv : RV L v v') : SemOK P s L h w U K :=
  ⟨v, h, ds, L, v', w, hk, hr, hv, r, Step.refl L h w⟩

def IntKind.num (k : IntKind) : Nat := IntKind.rec 0 1 2 3 4 5 6 7 k
theorem kind_num {k k' : IntKind} (h : Nat.beq (IntKind.num k) (IntKind.num k') = true) : k = k' := by
  cases k <;> cases k' <;> first | rfl | cases h

/-! Numbers -/
def xbits (m : Bool) (op : BinOp) (k : IntKind) (a b : Int) (ds : List Bool) (K : AV → List Bool → Prop) : Prop :=
  match op with
  | .and => ari m k ((BitVec.ofInt k.bits a &&& BitVec.ofInt k.bits b).toNat : Int) ds K
  | .or => ari m k ((BitVec.ofInt k.bits a ||| BitVec.ofInt k.bits b).toNat : Int) ds K
  | .xor => ari m k ((BitVec.ofInt k.bits a ^^^ BitVec.ofInt k.bits b).toNat : Int) ds K
  | .andNot => ari m k ((BitVec.ofInt k.bits a &&& ~~~BitVec.ofInt k.bits b).toNat : Int) ds K
  | _ => False
def xint (m : Bool) (op : BinOp) (k : IntKind) (a b : Int) (ds : List Bool) (K : AV → List Bool → Prop) : Prop :=
  match op with
  | .add => ari m k (a + b) ds K
  | .sub => ari m k (a - b) ds K
  | .mul => ari m k (a * b) ds K
  | .quo => chk m (Bool.not (eqI b 0)) (ari m k (Int.tdiv a b) ds K)
  | .rem => chk m (Bool.not (eqI b 0)) (K (.int k (Int.tmod a b)) ds)
  | .eql => dcd m (eqI a b) ds fun b ds => K (.bool b) ds
  | .neq => dcd m (eqI a b) ds fun b ds => K (.bool (Bool.not b)) ds
  | .lss => dcd m (ltI a b) ds fun b ds => K (.bool b) ds
  | .leq => dcd m (ltI b a) ds fun b ds => K (.bool (Bool.not b)) ds
  | .gtr => dcd m (ltI b a) ds fun b ds => K (.bool b) ds
  | .geq => dcd m (ltI a b) ds fun b ds => K (.bool (Bool.not b)) ds
  | op => xbits m op k a b ds K
def xshift (m : Bool) (op : BinOp) (k : IntKind) (a b : Int) (ds : List Bool) (K : AV → List Bool → Prop) : Prop :=
  chk m (Bool.not (ltI b 0)) (match op with
    | .shl => ari m k (a * Int.ofNat (Nat.pow 2 (min b.toNat k.bits))) ds K
    | .shr => K (.int k (Int.fdiv a (Int.ofNat (Nat.pow 2 (min b.toNat k.bits))))) ds
    | _ => False)
def xstr (m : Bool) (op : BinOp) (n v n' v' : Nat) (ds : List Bool) (K : AV → List Bool → Prop) : Prop :=
  match op with
  | .add => chk m (Nat.ble (Nat.add n n') 9223372036854775807) (K (.str (Nat.add n n') (catV n v v')) ds)
  | .eql => dcd m (Bool.and (Nat.beq n n') (Nat.beq v v')) ds fun b ds => K (.bool b) ds
  | .neq => dcd m (Bool.and (Nat.beq n n') (Nat.beq v v')) ds fun b ds => K (.bool (Bool.not b)) ds
  | _ => False

section
variable {P : Program} {L : LM} {h : H} {w : World} {U : Nat} {m : Bool} {ds : List Bool} {K : KV}

theorem not_eqI {b : Int} (h : Bool.not (eqI b 0) = true) : b ≠ 0 := by
  intro e; subst e; cases h
theorem not_ltI {b : Int} (h : Bool.not (ltI b 0) = true) : ¬ b < 0 := by
  rw [ltI_eq] at h; simpa using h
theorem xbits_sound (r : RH L h w U) {op : BinOp} {k : IntKind} {a b : Int} (hx : xbits m op k a b ds fun v ds => K v h ds) :
    SemOK P (Op.intBits op k a b) L h w U K := by
  unfold xbits at hx
  cases op <;> simp only at hx <;> first
    | exact hx.elim
    | (obtain ⟨ds', hk⟩ := ari_of hx; exact .same r hk (by simp only [Op.intBits]; rfl) (.int _ _))
theorem xint_sound (r : RH L h w U) {op : BinOp} {t : TypeId} {k : IntKind} {a b : Int} (hop : op ≠ .shl ∧ op ≠ .shr) (hx : xint m op k a b ds fun v ds => K v h ds) :
    SemOK P (binOp op t (.int k a) (.int k b)) L h w U K := by
  cases op <;> simp only [xint] at hx
  case add => obtain ⟨ds', hk⟩ := ari_of hx; exact .same r hk (by simp [binOp, Op.intArith]) (.int _ _)
  case sub => obtain ⟨ds', hk⟩ := ari_of hx; exact .same r hk (by simp [binOp, Op.intArith]) (.int _ _)
  case mul => obtain ⟨ds', hk⟩ := ari_of hx; exact .same r hk (by simp [binOp, Op.intArith]) (.int _ _)
  case quo =>
    obtain ⟨h0, hx⟩ := chk_of hx
    obtain ⟨ds', hk⟩ := ari_of hx
    exact .same r hk (by simp [binOp, Op.intDiv, not_eqI h0]) (.int _ _)
  case rem =>
    obtain ⟨h0, hk⟩ := chk_of hx
    exact .same r hk (by simp [binOp, Op.intDiv, not_eqI h0]) (.int _ _)
  case eql => obtain ⟨ds', hk⟩ := dcd_of hx; exact .same r hk (by simp [binOp, Op.intCmp, eqI_eq]) (.bool _)
  case neq => obtain ⟨ds', hk⟩ := dcd_of hx; exact .same r hk (by simp [binOp, Op.intCmp, eqI_eq, bne]) (.bool _)
  case lss => obtain ⟨ds', hk⟩ := dcd_of hx; exact .same r hk (by simp [binOp, Op.intCmp, ltI_eq]) (.bool _)
  case leq => obtain ⟨ds', hk⟩ := dcd_of hx; exact .same r hk (by simp only [binOp, Op.intCmp, ltI_eq]; simp [← Int.not_lt]) (.bool _)
  case gtr => obtain ⟨ds', hk⟩ := dcd_of hx; exact .same r hk (by simp [binOp, Op.intCmp, ltI_eq]) (.bool _)
  case geq => obtain ⟨ds', hk⟩ := dcd_of hx; exact .same r hk (by simp only [binOp, Op.intCmp, ltI_eq]; simp [← Int.not_lt]) (.bool _)
  case shl => exact absurd rfl hop.1
  case shr => exact absurd rfl hop.2
  case and => simpa [binOp] using xbits_sound r hx
  case or => simpa [binOp] using xbits_sound r hx
  case xor => simpa [binOp] using xbits_sound r hx
  case andNot => simpa [binOp] using xbits_sound r hx
theorem pow_int (n : Nat) : (Int.ofNat (Nat.pow 2 n)) = (2 : Int) ^ n := by
  show ((2 ^ n : Nat) : Int) = _
  simp
theorem xshift_sound (r : RH L h w U) {op : BinOp} {t : TypeId} {k k' : IntKind} {a b : Int} (hop : op = .shl ∨ op = .shr) (hx : xshift m op k a b ds fun v ds => K v h ds) :
    SemOK P (binOp op t (.int k a) (.int k' b)) L h w U K := by
  obtain ⟨h0, hx⟩ := chk_of hx
  have h0 := not_ltI h0
  rcases hop with rfl | rfl
  · obtain ⟨ds', hk⟩ := ari_of hx
    exact .same r hk (by simp only [binOp, Op.shift, if_neg h0, pow_int]; rfl) (.int _ _)
  · exact .same r hx (by simp only [binOp, Op.shift, if_neg h0, pow_int]; rfl) (.int _ _)
theorem ba_beq {s t : ByteArray} {n v n' v' : Nat} (hs : strOf s = .str n v) (ht : strOf t = .str n' v') :
    (s.toList == t.toList) = Bool.and (Nat.beq n n') (Nat.beq v v') := by
  obtain ⟨rfl, _, rfl⟩ := strOf_str hs
  obtain ⟨rfl, _, rfl⟩ := strOf_str ht
  rw [Bool.eq_iff_iff]
  show _ ↔ (Nat.beq _ _ && Nat.beq _ _) = true
  rw [Bool.and_eq_true, natBeq_iff, natBeq_iff, beq_iff_eq, ByteArray.toList_eq, ByteArray.toList_eq]
  exact ⟨fun e => ⟨by have := congrArg List.length e; simpa using this, by rw [e]⟩, fun ⟨a, b⟩ => by rw [strOf_inj a b]⟩
theorem xstr_sound (r : RH L h w U) {op : BinOp} {t : TypeId} {s s' : ByteArray} {n v n' v' : Nat} (hs : strOf s = .str n v) (hs' : strOf s' = .str n' v')
    (hx : xstr m op n v n' v' ds fun v ds => K v h ds) : SemOK P (binOp op t (.string s) (.string s')) L h w U K := by
  have hb := ba_beq hs hs'
  unfold xstr at hx
  cases op <;> simp only at hx <;> first
    | exact hx.elim
    | skip
  case add =>
    obtain ⟨h0, hk⟩ := chk_of hx
    have h0 := Nat.le_of_ble_eq_true h0
    obtain ⟨e1, e2, e3⟩ := strOf_str hs
    obtain ⟨f1, f2, f3⟩ := strOf_str hs'
    have h0' : ¬ (((s.size + s'.size : Nat) : Int) > IntKind.i64.max) := by
      rw [IntKind.max_i64, e1, f1]
      have h0 : n + n' ≤ 9223372036854775807 := h0
      omega
    refine .same r hk (v' := .string (s ++ s')) ?_ (.str _ _ _ ?_)
    · show (Op.stringOp .add s s').run P w = _
      simp only [Op.stringOp]
      rw [if_neg h0']; rfl
    · have hd : (s ++ s').data.toList = s.data.toList ++ s'.data.toList := by simp
      rw [strOf_eq, hd, ← catV_eq, e2, e3, f3, ByteArray.size_append, e1, f1]; rfl
  case eql => obtain ⟨ds', hk⟩ := dcd_of hx; exact .same r hk (by show (Op.stringOp .eql s s').run P w = _; simp only [Op.stringOp, hb]; rfl) (.bool _)
  case neq => obtain ⟨ds', hk⟩ := dcd_of hx; exact .same r hk (by show (Op.stringOp .neq s s').run P w = _; simp only [Op.stringOp, hb]; rfl) (.bool _)
end
end
end Go.X

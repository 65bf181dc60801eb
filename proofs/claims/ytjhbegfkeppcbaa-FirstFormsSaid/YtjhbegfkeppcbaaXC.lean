/- Scalars: numbers and strings of the abstract machine. -/
import Derived.Test.YtjhbegfkeppcbaaXB
import Derived.IntWalk
set_option autoImplicit false
namespace Go.X
noncomputable section

/-! Numbers -/
def sIn (B : Nat) (n : Int) : Bool := Int.rec (fun m => Nat.ble (Nat.succ m) B) (fun m => Nat.ble (Nat.succ m) B) n
def uIn (B : Nat) (n : Int) : Bool := Int.rec (fun m => Nat.ble (Nat.succ m) B) (fun _ => false) n
def inR (k : IntKind) (n : Int) : Bool :=
  IntKind.rec (sIn 128 n) (sIn 32768 n) (sIn 2147483648 n) (sIn 9223372036854775808 n) (uIn 256 n) (uIn 65536 n) (uIn 4294967296 n) (uIn 18446744073709551616 n) k
theorem sIn_eq (B : Nat) (n : Int) : sIn B n = decide (-(B : Int) ≤ n ∧ n < B) := by
  cases n with
  | ofNat m =>
    show Nat.ble (m + 1) B = _
    rw [Bool.eq_iff_iff, Nat.ble_eq, decide_eq_true_iff]; simp; omega
  | negSucc m =>
    show Nat.ble (m + 1) B = _
    rw [Bool.eq_iff_iff, Nat.ble_eq, decide_eq_true_iff]; omega
theorem uIn_eq (B : Nat) (n : Int) : uIn B n = decide (0 ≤ n ∧ n < B) := by
  cases n with
  | ofNat m =>
    show Nat.ble (m + 1) B = _
    rw [Bool.eq_iff_iff, Nat.ble_eq, decide_eq_true_iff]; simp; omega
  | negSucc m =>
    show false = _
    rw [Bool.eq_iff_iff, decide_eq_true_iff]; simp
theorem wrap_in {k : IntKind} {n : Int} (h : inR k n = true) : k.wrap n = n := by
  cases k with
  | i8 => have h : sIn 128 n = true := h; rw [sIn_eq, decide_eq_true_iff] at h; simp [IntKind.wrap, IntKind.bits, IntKind.signed]; omega
  | i16 => have h : sIn 32768 n = true := h; rw [sIn_eq, decide_eq_true_iff] at h; simp [IntKind.wrap, IntKind.bits, IntKind.signed]; omega
  | i32 => have h : sIn 2147483648 n = true := h; rw [sIn_eq, decide_eq_true_iff] at h; simp [IntKind.wrap, IntKind.bits, IntKind.signed]; omega
  | i64 => have h : sIn 9223372036854775808 n = true := h; rw [sIn_eq, decide_eq_true_iff] at h; simp [IntKind.wrap, IntKind.bits, IntKind.signed]; omega
  | u8 => have h : uIn 256 n = true := h; rw [uIn_eq, decide_eq_true_iff] at h; simp [IntKind.wrap, IntKind.bits, IntKind.signed]; omega
  | u16 => have h : uIn 65536 n = true := h; rw [uIn_eq, decide_eq_true_iff] at h; simp [IntKind.wrap, IntKind.bits, IntKind.signed]; omega
  | u32 => have h : uIn 4294967296 n = true := h; rw [uIn_eq, decide_eq_true_iff] at h; simp [IntKind.wrap, IntKind.bits, IntKind.signed]; omega
  | u64 => have h : uIn 18446744073709551616 n = true := h; rw [uIn_eq, decide_eq_true_iff] at h; simp [IntKind.wrap, IntKind.bits, IntKind.signed]; omega
def sWr (B HB : Nat) (n : Int) : Int := Bool.rec (Int.emod n (Int.ofNat B)) (Int.sub (Int.emod n (Int.ofNat B)) (Int.ofNat B)) (Bool.not (sIn HB (Int.emod n (Int.ofNat B))))
def wrapQ (k : IntKind) (n : Int) : Int :=
  IntKind.rec (sWr 256 128 n) (sWr 65536 32768 n) (sWr 4294967296 2147483648 n) (sWr 18446744073709551616 9223372036854775808 n)
    (Int.emod n (Int.ofNat 256)) (Int.emod n (Int.ofNat 65536)) (Int.emod n (Int.ofNat 4294967296)) (Int.emod n (Int.ofNat 18446744073709551616)) k
theorem sWr_eq (B HB : Nat) (n : Int) (hB : 0 < B) : sWr B HB n = if n % (B : Int) ≥ HB then n % (B : Int) - B else n % (B : Int) := by
  show (Bool.rec (n % (B : Int)) (n % (B : Int) - (B : Int)) (!(sIn HB (n % (B : Int)))) : Int) = _
  have h0 := Int.emod_nonneg n (b := (B : Int)) (by omega)
  rw [sIn_eq]
  by_cases h : n % (B : Int) ≥ HB
  · have : decide (-(HB : Int) ≤ n % (B : Int) ∧ n % (B : Int) < HB) = false := by simp; omega
    rw [this, if_pos h]; rfl
  · have : decide (-(HB : Int) ≤ n % (B : Int) ∧ n % (B : Int) < HB) = true := by simp; omega
    rw [this, if_neg h]; rfl
theorem wrapQ_eq (k : IntKind) (n : Int) : wrapQ k n = k.wrap n := by
  cases k with
  | i8 => exact (sWr_eq 256 128 n (by decide)).trans (by simp [IntKind.wrap, IntKind.bits, IntKind.signed])
  | i16 => exact (sWr_eq 65536 32768 n (by decide)).trans (by simp [IntKind.wrap, IntKind.bits, IntKind.signed])
  | i32 => exact (sWr_eq 4294967296 2147483648 n (by decide)).trans (by simp [IntKind.wrap, IntKind.bits, IntKind.signed])
  | i64 => exact (sWr_eq 18446744073709551616 9223372036854775808 n (by decide)).trans (by simp [IntKind.wrap, IntKind.bits, IntKind.signed])
  | u8 => show n % ((256 : Nat) : Int) = _; simp [IntKind.wrap, IntKind.bits, IntKind.signed]
  | u16 => show n % ((65536 : Nat) : Int) = _; simp [IntKind.wrap, IntKind.bits, IntKind.signed]
  | u32 => show n % ((4294967296 : Nat) : Int) = _; simp [IntKind.wrap, IntKind.bits, IntKind.signed]
  | u64 => show n % ((18446744073709551616 : Nat) : Int) = _; simp [IntKind.wrap, IntKind.bits, IntKind.signed]
def wrapF (k : IntKind) (n : Int) : Int := Bool.rec (wrapQ k n) n (inR k n)
theorem wrapF_eq (k : IntKind) (n : Int) : wrapF k n = k.wrap n := by
  unfold wrapF
  cases h : inR k n with
  | true => exact (wrap_in h).symm
  | false => exact wrapQ_eq k n

def ltI (a b : Int) : Bool := Int.rec (fun a => Int.rec (fun b => Nat.ble (Nat.succ a) b) (fun _ => false) b) (fun a => Int.rec (fun _ => true) (fun b => Nat.ble (Nat.succ b) a) b) a
def eqI (a b : Int) : Bool := Int.rec (fun a => Int.rec (fun b => Nat.beq a b) (fun _ => false) b) (fun a => Int.rec (fun _ => false) (fun b => Nat.beq a b) b) a
theorem ltI_eq (a b : Int) : ltI a b = decide (a < b) := by
  cases a with
  | ofNat a => cases b with
    | ofNat b => show Nat.ble (a + 1) b = _; rw [Bool.eq_iff_iff, Nat.ble_eq, decide_eq_true_iff]; simp; omega
    | negSucc b => show false = _; rw [Bool.eq_iff_iff, decide_eq_true_iff]; simp; omega
  | negSucc a => cases b with
    | ofNat b => show true = _; rw [Bool.eq_iff_iff, decide_eq_true_iff]; simp; omega
    | negSucc b => show Nat.ble (b + 1) a = _; rw [Bool.eq_iff_iff, Nat.ble_eq, decide_eq_true_iff]; omega
theorem natBeq_iff {a b : Nat} : Nat.beq a b = true ↔ a = b := ⟨Nat.eq_of_beq_eq_true, fun h => by subst h; exact Nat.beq_refl a⟩
theorem eqI_eq (a b : Int) : eqI a b = (a == b) := by
  rw [Bool.eq_iff_iff, beq_iff_eq]
  cases a with
  | ofNat a => cases b with
    | ofNat b => show Nat.beq a b = true ↔ _; rw [natBeq_iff]; exact Int.ofNat_inj.symm
    | negSucc b => show false = true ↔ _; simp
  | negSucc a => cases b with
    | ofNat b => show false = true ↔ _; simp
    | negSucc b => show Nat.beq a b = true ↔ _; rw [natBeq_iff]; simp

/-- a number of kind k that is n wrapped -/
def ari (m : Bool) (k : IntKind) (n : Int) (ds : List Bool) (K : AV → List Bool → Prop) : Prop :=
  Bool.rec (K (.int k (wrapF k n)) ds) (List.rec False (fun d ds _ => Bool.rec (K (.int k (k.wrap n)) ds) (inR k n = true ∧ K (.int k n) ds) d) ds) m
theorem ari_of {m : Bool} {k : IntKind} {n : Int} {ds : List Bool} {K : AV → List Bool → Prop} (h : ari m k n ds K) : ∃ ds', K (.int k (k.wrap n)) ds' := by
  cases m with
  | false => exact ⟨ds, by rw [← wrapF_eq]; exact h⟩
  | true => cases ds with
    | nil => exact h.elim
    | cons d ds => cases d with
      | false => exact ⟨ds, h⟩
      | true => exact ⟨ds, by rw [wrap_in h.1]; exact h.2⟩
/-- a test's outcome -/
def dcd (m b : Bool) (ds : List Bool) (K : Bool → List Bool → Prop) : Prop :=
  Bool.rec (K b ds) (List.rec False (fun d ds _ => b = d ∧ K d ds) ds) m
theorem dcd_of {m b : Bool} {ds : List Bool} {K : Bool → List Bool → Prop} (h : dcd m b ds K) : ∃ ds', K b ds' := by
  cases m with
  | false => exact ⟨ds, h⟩
  | true => cases ds with
    | nil => exact h.elim
    | cons d ds => obtain ⟨rfl, h⟩ := h; exact ⟨ds, h⟩

/-! Strings -/
theorem pack_cons (c : UInt8) (l : List UInt8) : pack (c :: l) = c.toNat + 256 * pack l := rfl
theorem pack_lt (l : List UInt8) : pack l < 256 ^ l.length := by
  induction l with
  | nil => simp [pack]
  | cons c l ih =>
    have := c.toNat_lt
    rw [pack_cons, List.length_cons, Nat.pow_succ]
    omega
theorem pack_inj : ∀ {l l' : List UInt8}, l.length = l'.length → pack l = pack l' → l = l'
  | [], [], _, _ => rfl
  | c :: l, c' :: l', hl, hp => by
    rw [pack_cons, pack_cons] at hp
    have h1 := c.toNat_lt
    have h2 := c'.toNat_lt
    have hc : c.toNat = c'.toNat := by omega
    have hp' : pack l = pack l' := by omega
    rw [pack_inj (by simpa using hl) hp', UInt8.toNat_inj.1 hc]
theorem pack_append (l l' : List UInt8) : pack (l ++ l') = pack l + 256 ^ l.length * pack l' := by
  induction l with
  | nil => simp [pack]
  | cons c l ih =>
    rw [List.cons_append, pack_cons, pack_cons, ih, List.length_cons, Nat.pow_succ, Nat.mul_add, ← Nat.mul_assoc, Nat.mul_comm 256 (256 ^ l.length)]
    omega
theorem pack_drop : ∀ (l : List UInt8) (k : Nat), pack (l.drop k) = pack l / 256 ^ k
  | l, 0 => by simp
  | [], k + 1 => by simp [pack]
  | c :: l, k + 1 => by
    have := c.toNat_lt
    rw [List.drop_succ_cons, pack_drop l k, pack_cons, Nat.pow_succ, Nat.mul_comm (256 ^ k) 256, ← Nat.div_div_eq_div_mul]
    congr 1
    omega
theorem pack_take : ∀ (l : List UInt8) (k : Nat), pack (l.take k) = pack l % 256 ^ k
  | l, 0 => by simp [pack, Nat.mod_one]
  | [], k + 1 => by simp [pack]
  | c :: l, k + 1 => by
    have hc := c.toNat_lt
    rw [List.take_succ_cons, pack_cons, pack_cons, pack_take l k, Nat.pow_succ, Nat.mul_comm (256 ^ k) 256, Nat.mod_mul]
    have h1 : (c.toNat + 256 * pack l) % 256 = c.toNat := by omega
    have h2 : (c.toNat + 256 * pack l) / 256 = pack l := by omega
    rw [h1, h2]
theorem pack_head (l : List UInt8) (c : UInt8) (h : l[0]? = some c) : pack l % 256 = c.toNat := by
  cases l with
  | nil => cases h
  | cons d l => simp at h; subst h; have := d.toNat_lt; rw [pack_cons]; omega
def byteAt (v i : Nat) : Nat := Nat.mod (Nat.shiftRight v (Nat.mul 8 i)) 256
theorem pow8 (i : Nat) : 2 ^ (8 * i) = 256 ^ i := by rw [Nat.pow_mul]
theorem shr8 (v i : Nat) : Nat.shiftRight v (Nat.mul 8 i) = v / 256 ^ i := by
  show v >>> (8 * i) = _
  rw [Nat.shiftRight_eq_div_pow, pow8]
theorem byteAt_eq (l : List UInt8) (i : Nat) (c : UInt8) (h : l[i]? = some c) : byteAt (pack l) i = c.toNat := by
  show Nat.shiftRight (pack l) (Nat.mul 8 i) % 256 = _
  rw [shr8, ← pack_drop]
  exact pack_head _ c (by simpa using h)
def subV (v l h : Nat) : Nat := Nat.mod (Nat.shiftRight v (Nat.mul 8 l)) (Nat.pow 256 (Nat.sub h l))
theorem subV_eq (s : List UInt8) (l h : Nat) : subV (pack s) l h = pack ((s.drop l).take (h - l)) := by
  show Nat.shiftRight (pack s) (Nat.mul 8 l) % 256 ^ (h - l) = _
  rw [shr8, ← pack_drop, ← pack_take]
def catV (n v v' : Nat) : Nat := Nat.add v (Nat.shiftLeft v' (Nat.mul 8 n))
theorem catV_eq (l l' : List UInt8) : catV l.length (pack l) (pack l') = pack (l ++ l') := by
  show pack l + (pack l') <<< (8 * l.length) = _
  rw [pack_append, Nat.shiftLeft_eq, pow8, Nat.mul_comm (pack l')]
theorem strOf_eq (s : ByteArray) : strOf s = .str s.size (pack s.data.toList) := by
  unfold strOf; rw [llen_eq]; rfl
theorem strOf_str {s : ByteArray} {n v : Nat} (h : strOf s = .str n v) : s.size = n ∧ s.data.toList.length = n ∧ v = pack s.data.toList := by
  rw [strOf_eq] at h; cases h; exact ⟨rfl, rfl, rfl⟩
theorem strOf_inj {s t : ByteArray} (hn : s.size = t.size) (hv : pack s.data.toList = pack t.data.toList) : s = t := by
  have := pack_inj (l := s.data.toList) (l' := t.data.toList) hn hv
  cases s; cases t; congr 1; exact Array.ext' this
end
end Go.X

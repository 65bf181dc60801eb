/- The operations of the abstract machine: making and appending. -/
import Derived.Test.YtjhbegfkeppcbaaXG
set_option autoImplicit false
namespace Go.X
noncomputable section

def bytesT (P : Program) (t : TypeId) : Option Nat := (P.info? t).map (·.bytes)
def i64n (v : AV) (K : Nat → Prop) : Prop := match v with
  | .int _ n => match n with
    | .ofNat k => K k
    | .negSucc _ => False
  | _ => False
def xmake (m : Bool) (P : Program) (t : TypeId) (len cap : AV) (h : H) (ds : List Bool) (K : KV) : Prop :=
  match elemT P t with
  | some e => match sizeT P e, zcells P e, bytesT P e with
    | some sz, some zs, some by_ => i64n len fun l => i64n cap fun c =>
      chk m (Bool.and (Nat.ble l c) (Bool.and (Nat.ble c 9223372036854775807) (Bool.and (Nat.ble (Nat.mul by_ c) 281474976710656) (Nat.beq (llen zs) sz))))
        (K (.slc h.next 0 l c true sz) (hrow h (lrep c zs) e) ds)
    | _, _, _ => False
  | none => False

/-- strike of all the blocks ps -/
def dels (t : T Blk) (ps : List Nat) : T Blk := List.rec t (fun q _ ih => ih.del q) ps
theorem get_dels {t : T Blk} : ∀ {ps : List Nat} {j : Nat} {k : Blk}, (dels t ps).get j = some k → t.get j = some k ∧ j ∉ ps
  | [], j, k, h => ⟨h, fun h => by cases h⟩
  | q :: ps, j, k, h => by
    obtain ⟨a, b⟩ := T.get_del (t := dels t ps) h
    obtain ⟨c, d⟩ := get_dels b
    exact ⟨c, fun hm => by rcases List.mem_cons.1 hm with e | e; exact a e; exact d e⟩

/-- the heap behind an append to a slice of row i (it begins at o) whose capacity is not known -/
def happ (h : H) (i o p : Nat) (cells : List AV) (e : TypeId) (ps : List Nat) (all : List AV) : H :=
  ⟨T.set (Bool.rec ((dels h.b ps).del i) (Bool.rec ((dels h.b ps).del i) ((dels h.b ps).set (.row cells e true [h.next]) i) (Nat.ble (llen cells) p)) (Nat.beq o 0))
    (.row all e true [i]) h.next, Nat.succ h.next⟩

/-- news: the new cells -/
def xappN (m : Bool) (by_ sz : Nat) (e : TypeId) (s : AV) (n : Nat) (news : List AV) (h : H) (ds : List Bool) (K : KV) : Prop :=
  match s with
  | .nils => chk m (Bool.and (Nat.ble n 9223372036854775807) (Nat.ble (Nat.mul n by_) 140737488355328)) (K (.slc h.next 0 n n false sz) (hrow h news e) ds)
  | .slc i o l cap ex sz' => chk m (Nat.beq sz' sz) (dcd m (Nat.ble (Nat.add l n) cap) ds fun b ds => Bool.rec
      (match h.b.get i with
        | some (.row cells e' wr ps) =>
          chk m (Bool.and (Nat.beq e' e) (Bool.and (Nat.beq (llen (ltake (ldrop cells o) (Nat.mul l sz))) (Nat.mul l sz)) (Bool.and (Nat.ble (Nat.add l n) 9223372036854775807) (Nat.ble (Nat.mul (Nat.add l n) by_) 140737488355328))))
          (Bool.rec (Bool.rec False (Bool.rec False (K (.slc h.next 0 (Nat.add l n) (Nat.add l n) false sz) (happ h i o (Nat.mul l sz) cells e ps (lapp (ltake (ldrop cells o) (Nat.mul l sz)) news)) ds) (ones news)) wr)
            (K (.slc h.next 0 (Nat.add l n) (Nat.add l n) false sz) (hrow h (lapp (ltake (ldrop cells o) (Nat.mul l sz)) news) e) ds) ex)
        | _ => False)
      (hwr m h i (Nat.add o (Nat.mul l sz)) news fun h => K (.slc i o (Nat.add l n) cap ex sz) h ds) b)
  | _ => False
def xapp (m : Bool) (P : Program) (t tx : TypeId) (s x : AV) (h : H) (ds : List Bool) (K : KV) : Prop :=
  match elemT P t, elemT P tx with
  | some e, some _ => match sizeT P e, zcells P e, bytesT P e with
    | some sz, some zs, some by_ => match x with
      | .nils => match s with
        | .nils => K .nils h ds
        | .slc i o l cap ex sz' => K (.slc i o l cap ex sz') h ds
        | .emp => K .emp h ds
        | _ => False
      | .emp => match s with
        | .nils => K .nils h ds
        | .slc i o l cap ex sz' => K (.slc i o l cap ex sz') h ds
        | .emp => K .emp h ds
        | _ => False
      | .slc j oj n _ _ _ => dcd m (Nat.beq n 0) ds fun b ds => Bool.rec
          (match h.b.get j with
            | some (.row cells _ _ _) => chk m (Bool.and (Nat.beq (llen zs) sz) (Nat.beq (llen (ltake (ldrop cells oj) (Nat.mul n sz))) (Nat.mul n sz)))
              (xappN m by_ sz e s n (ltake (ldrop cells oj) (Nat.mul n sz)) h ds K)
            | _ => False)
          (match s with
            | .nils => K .nils h ds
            | .slc i o l cap ex sz' => K (.slc i o l cap ex sz') h ds
            | .emp => K .emp h ds
            | _ => False) b
      | _ => False
    | _, _, _ => False
  | _, _ => False

section
variable {P : Program} {L : LM} {h : H} {w : World} {U : Nat} {m : Bool} {ds : List Bool} {K : KV}
theorem bytesT_some {t : TypeId} {n : Nat} (h : bytesT P t = some n) : ∃ i, P.info? t = some i ∧ i.bytes = n := by
  unfold bytesT at h
  cases hi : P.info? t with
  | none => simp [hi] at h
  | some i => simp [hi] at h; exact ⟨i, rfl, h⟩
theorem i64n_some {v : AV} {v' : Value} (hv : RV L v v') {K : Nat → Prop} (hk : i64n v K) : ∃ (k : IntKind) (n : Nat), v' = .int k (n : Int) ∧ K n := by
  unfold i64n at hk
  split at hk <;> try exact hk.elim
  split at hk <;> try exact hk.elim
  cases hv
  exact ⟨_, _, rfl, hk⟩
theorem wrap64_nat {n : Nat} (h : n ≤ 9223372036854775807) : IntKind.i64.wrap (n : Int) = n := by
  simp [IntKind.wrap, IntKind.bits, IntKind.signed]; omega
theorem xmake_sound (r : RH L h w U) (hU : ∀ v h' ds', K v h' ds' → h'.next ≤ U) {t : TypeId} {len cap : AV} {len' cap' : Value} (hl : RV L len len') (hc : RV L cap cap') (hk : xmake m P t len cap h ds K) :
    SemOK P (Instr.makeSlice t len' cap') L h w U K := by
  unfold xmake at hk
  split at hk <;> try exact hk.elim
  rename_i e he
  split at hk <;> try exact hk.elim
  rename_i sz zs by_ hsz hzs hby
  obtain ⟨k1, l, rfl, hk⟩ := i64n_some hl hk
  obtain ⟨k2, c, rfl, hk⟩ := i64n_some hc hk
  obtain ⟨hb, hk⟩ := chk_of hk
  obtain ⟨b1, b2⟩ := band hb
  obtain ⟨b2, b3⟩ := band b2
  obtain ⟨b3, b4⟩ := band b3
  have b1 := Nat.le_of_ble_eq_true b1
  have b2 := Nat.le_of_ble_eq_true b2
  have b3 : by_ * c ≤ 281474976710656 := Nat.le_of_ble_eq_true b3
  have b4 := Nat.eq_of_beq_eq_true b4
  rw [llen_eq] at b4
  obtain ⟨i, z, hi, hz, hrv⟩ := zcells_some hzs
  obtain ⟨i', hi', hs⟩ := sizeT_some hsz
  rw [hi] at hi'; cases hi'
  obtain ⟨i', hi', hy⟩ := bytesT_some hby
  rw [hi] at hi'; cases hi'
  have hzl : z.cells.size = sz := by have := (hrv L).length; simp at this; omega
  have hrep := rvs_rep (hrv L) c
  rw [hzl] at hrep
  obtain ⟨L', e1, e2, e3⟩ := rh_row r (hU _ _ _ hk) (lrep c zs) e _ (hc_of_rvs hrep)
  refine ⟨_, _, ds, L', _, _, hk, ?_, .slc _ 0 l c true sz _ c e1 (Nat.le_refl _) b1 (fun _ => rfl) (by simp), e2, e3⟩
  have w1 := wrap64_nat b2
  have w2 : IntKind.i64.wrap (l : Int) = l := wrap64_nat (by omega)
  have p48 : (2 : Int) ^ 48 = 281474976710656 := rfl
  have t1 : (decide ((c : Int) < 0) || decide ((i.bytes : Int) * (c : Int) > 2 ^ 48)) = false := by
    have : ((by_ * c : Nat) : Int) ≤ 281474976710656 := Int.ofNat_le.2 b3
    rw [Int.natCast_mul] at this
    rw [hy, p48, decide_eq_false (by omega : ¬ (c : Int) < 0), decide_eq_false (Int.not_lt.2 this)]; rfl
  have t2 : decide ((l : Int) < 0) = false := by simp
  have t3 : decide ((l : Int) > (c : Int)) = false := by simp; omega
  simp only [Instr.makeSlice, Sem.run_bind, run_underlying (elemT_some he), Result.andThen_ok, asInt, asIntOf, Sem.run_pure, typeInfo, run_program, hi, w1, w2, t1, t2, t3, Bool.or_false, Bool.false_eq_true, if_false,
    run_askRoom, Int.toNat_natCast, sizeOf, hs]
  by_cases h0 : c * sz = 0
  · have e0 : (Array.map (fun x => (#[] : Array Value)[x % (#[] : Array Value).size]!) (Array.range (c * sz))) = (Array.map (fun i => z.cells[i % sz]!) (Array.range (c * sz))) := by rw [h0]; simp
    rw [if_pos h0]
    simp only [Sem.run_bind, Sem.run_pure, Result.andThen_ok, e0, newRow, run_newObj]
    rfl
  · rw [if_neg h0]
    simp only [Sem.run_bind, Sem.run_pure, Result.andThen_ok, zeroValue, typeInfo, run_program, hi, hz, hzl, newRow, run_newObj]
    rfl
end
end
end Go.X

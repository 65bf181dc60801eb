/- The base of an abstract machine: tries, lists by recursors, abstract values, and what it is that a concrete value stands for an abstract one. -/
import Derived.Calls
import Derived.KernelRfl
set_option autoImplicit false
namespace Go.X
noncomputable section

/-- A trie whose keys are numbers. -/
inductive T (α : Type) where
  | leaf
  | node (l : T α) (v : Option α) (r : T α)

namespace T
variable {α : Type}
def get (t : T α) : Nat → Option α :=
  T.rec (motive := fun _ => Nat → Option α) (fun _ => none)
    (fun _ v _ ihl ihr i => Bool.rec (Bool.rec (ihr (Nat.div i 2)) (ihl (Nat.div i 2)) (Nat.beq (Nat.mod i 2) 0)) v (Nat.beq i 0)) t
def one (f : Nat) (x : α) : Nat → T α :=
  Nat.rec (motive := fun _ => Nat → T α) (fun _ => leaf)
    (fun _ ih i => Bool.rec (Bool.rec (node leaf none (ih (Nat.div i 2))) (node (ih (Nat.div i 2)) none leaf) (Nat.beq (Nat.mod i 2) 0)) (node leaf (some x) leaf) (Nat.beq i 0)) f
def set (t : T α) (x : α) : Nat → T α :=
  T.rec (motive := fun _ => Nat → T α) (fun i => one (Nat.succ i) x i)
    (fun l v r ihl ihr i => Bool.rec (Bool.rec (node l v (ihr (Nat.div i 2))) (node (ihl (Nat.div i 2)) v r) (Nat.beq (Nat.mod i 2) 0)) (node l (some x) r) (Nat.beq i 0)) t
def del (t : T α) : Nat → T α :=
  T.rec (motive := fun _ => Nat → T α) (fun _ => leaf)
    (fun l v r ihl ihr i => Bool.rec (Bool.rec (node l v (ihr (Nat.div i 2))) (node (ihl (Nat.div i 2)) v r) (Nat.beq (Nat.mod i 2) 0)) (node l none r) (Nat.beq i 0)) t

theorem get_leaf (i : Nat) : (leaf : T α).get i = none := rfl
theorem beq0 {i : Nat} : Nat.beq i 0 = decide (i = 0) := by
  cases i <;> simp [Nat.beq]
theorem get_node (l : T α) (v : Option α) (r : T α) (i : Nat) :
    (node l v r).get i = if i = 0 then v else if i % 2 = 0 then l.get (i / 2) else r.get (i / 2) := by
  show @Bool.rec (fun _ => Option α) (@Bool.rec (fun _ => Option α) (r.get (Nat.div i 2)) (l.get (Nat.div i 2)) (Nat.beq (Nat.mod i 2) 0)) v (Nat.beq i 0) = _
  rw [beq0, beq0]
  by_cases h : i = 0
  · simp [h]
  · by_cases h2 : i % 2 = 0
    · have h2' : Nat.mod i 2 = 0 := h2
      simp [h, h2, h2']; rfl
    · have h2' : ¬ Nat.mod i 2 = 0 := h2
      simp [h, h2, h2']; rfl
theorem one_succ (f : Nat) (x : α) (i : Nat) :
    one (f + 1) x i = if i = 0 then node leaf (some x) leaf else if i % 2 = 0 then node (one f x (i / 2)) none leaf else node leaf none (one f x (i / 2)) := by
  show @Bool.rec (fun _ => T α) (@Bool.rec (fun _ => T α) (node leaf none (one f x (Nat.div i 2))) (node (one f x (Nat.div i 2)) none leaf) (Nat.beq (Nat.mod i 2) 0)) (node leaf (some x) leaf) (Nat.beq i 0) = _
  rw [beq0, beq0]
  by_cases h : i = 0
  · simp [h]
  · by_cases h2 : i % 2 = 0
    · have h2' : Nat.mod i 2 = 0 := h2
      simp [h, h2, h2']; rfl
    · have h2' : ¬ Nat.mod i 2 = 0 := h2
      simp [h, h2, h2']; rfl
theorem set_node (l : T α) (v : Option α) (r : T α) (x : α) (i : Nat) :
    (node l v r).set x i = if i = 0 then node l (some x) r else if i % 2 = 0 then node (l.set x (i / 2)) v r else node l v (r.set x (i / 2)) := by
  show @Bool.rec (fun _ => T α) (@Bool.rec (fun _ => T α) (node l v (r.set x (Nat.div i 2))) (node (l.set x (Nat.div i 2)) v r) (Nat.beq (Nat.mod i 2) 0)) (node l (some x) r) (Nat.beq i 0) = _
  rw [beq0, beq0]
  by_cases h : i = 0
  · simp [h]
  · by_cases h2 : i % 2 = 0
    · have h2' : Nat.mod i 2 = 0 := h2
      simp [h, h2, h2']; rfl
    · have h2' : ¬ Nat.mod i 2 = 0 := h2
      simp [h, h2, h2']; rfl
theorem del_node (l : T α) (v : Option α) (r : T α) (i : Nat) :
    (node l v r).del i = if i = 0 then node l none r else if i % 2 = 0 then node (l.del (i / 2)) v r else node l v (r.del (i / 2)) := by
  show @Bool.rec (fun _ => T α) (@Bool.rec (fun _ => T α) (node l v (r.del (Nat.div i 2))) (node (l.del (Nat.div i 2)) v r) (Nat.beq (Nat.mod i 2) 0)) (node l none r) (Nat.beq i 0) = _
  rw [beq0, beq0]
  by_cases h : i = 0
  · simp [h]
  · by_cases h2 : i % 2 = 0
    · have h2' : Nat.mod i 2 = 0 := h2
      simp [h, h2, h2']; rfl
    · have h2' : ¬ Nat.mod i 2 = 0 := h2
      simp [h, h2, h2']; rfl
theorem get_one {f : Nat} {x : α} : ∀ {i j : Nat} {v : α}, (one f x i).get j = some v → j = i ∧ v = x := by
  induction f with
  | zero => intro i j v h; cases h
  | succ f ih =>
    intro i j v h
    rw [one_succ] at h
    by_cases hi : i = 0
    · rw [if_pos hi, get_node] at h
      by_cases hj : j = 0
      · rw [if_pos hj] at h; cases h; exact ⟨by omega, rfl⟩
      · rw [if_neg hj] at h; split at h <;> cases h
    · rw [if_neg hi] at h
      by_cases hi2 : i % 2 = 0
      · rw [if_pos hi2, get_node] at h
        by_cases hj : j = 0
        · rw [if_pos hj] at h; cases h
        · rw [if_neg hj] at h
          by_cases hj2 : j % 2 = 0
          · rw [if_pos hj2] at h; obtain ⟨a, b⟩ := ih h; exact ⟨by omega, b⟩
          · rw [if_neg hj2] at h; cases h
      · rw [if_neg hi2, get_node] at h
        by_cases hj : j = 0
        · rw [if_pos hj] at h; cases h
        · rw [if_neg hj] at h
          by_cases hj2 : j % 2 = 0
          · rw [if_pos hj2] at h; cases h
          · rw [if_neg hj2] at h; obtain ⟨a, b⟩ := ih h; exact ⟨by omega, b⟩
theorem get_set {t : T α} {x : α} : ∀ {i j : Nat} {v : α}, (t.set x i).get j = some v → (j = i ∧ v = x) ∨ (j ≠ i ∧ t.get j = some v) := by
  induction t with
  | leaf => intro i j v h; exact .inl (get_one (f := i + 1) h)
  | node l u r ihl ihr =>
    intro i j v h
    rw [set_node] at h
    by_cases hi : i = 0
    · rw [if_pos hi, get_node] at h
      by_cases hj : j = 0
      · rw [if_pos hj] at h; cases h; exact .inl ⟨by omega, rfl⟩
      · rw [if_neg hj] at h; exact .inr ⟨by omega, by rw [get_node, if_neg hj]; exact h⟩
    · rw [if_neg hi] at h
      by_cases hi2 : i % 2 = 0
      · rw [if_pos hi2, get_node] at h
        by_cases hj : j = 0
        · rw [if_pos hj] at h; exact .inr ⟨by omega, by rw [get_node, if_pos hj]; exact h⟩
        · rw [if_neg hj] at h
          by_cases hj2 : j % 2 = 0
          · rw [if_pos hj2] at h
            rcases ihl h with ⟨a, b⟩ | ⟨a, b⟩
            · exact .inl ⟨by omega, b⟩
            · exact .inr ⟨by omega, by rw [get_node, if_neg hj, if_pos hj2]; exact b⟩
          · rw [if_neg hj2] at h; exact .inr ⟨by omega, by rw [get_node, if_neg hj, if_neg hj2]; exact h⟩
      · rw [if_neg hi2, get_node] at h
        by_cases hj : j = 0
        · rw [if_pos hj] at h; exact .inr ⟨by omega, by rw [get_node, if_pos hj]; exact h⟩
        · rw [if_neg hj] at h
          by_cases hj2 : j % 2 = 0
          · rw [if_pos hj2] at h; exact .inr ⟨by omega, by rw [get_node, if_neg hj, if_pos hj2]; exact h⟩
          · rw [if_neg hj2] at h
            rcases ihr h with ⟨a, b⟩ | ⟨a, b⟩
            · exact .inl ⟨by omega, b⟩
            · exact .inr ⟨by omega, by rw [get_node, if_neg hj, if_neg hj2]; exact b⟩
theorem get_del {t : T α} : ∀ {i j : Nat} {v : α}, (t.del i).get j = some v → j ≠ i ∧ t.get j = some v := by
  induction t with
  | leaf => intro i j v h; cases h
  | node l u r ihl ihr =>
    intro i j v h
    rw [del_node] at h
    by_cases hi : i = 0
    · rw [if_pos hi, get_node] at h
      by_cases hj : j = 0
      · rw [if_pos hj] at h; cases h
      · rw [if_neg hj] at h; exact ⟨by omega, by rw [get_node, if_neg hj]; exact h⟩
    · rw [if_neg hi] at h
      by_cases hi2 : i % 2 = 0
      · rw [if_pos hi2, get_node] at h
        by_cases hj : j = 0
        · rw [if_pos hj] at h; exact ⟨by omega, by rw [get_node, if_pos hj]; exact h⟩
        · rw [if_neg hj] at h
          by_cases hj2 : j % 2 = 0
          · rw [if_pos hj2] at h
            obtain ⟨a, b⟩ := ihl h
            exact ⟨by omega, by rw [get_node, if_neg hj, if_pos hj2]; exact b⟩
          · rw [if_neg hj2] at h; exact ⟨by omega, by rw [get_node, if_neg hj, if_neg hj2]; exact h⟩
      · rw [if_neg hi2, get_node] at h
        by_cases hj : j = 0
        · rw [if_pos hj] at h; exact ⟨by omega, by rw [get_node, if_pos hj]; exact h⟩
        · rw [if_neg hj] at h
          by_cases hj2 : j % 2 = 0
          · rw [if_pos hj2] at h; exact ⟨by omega, by rw [get_node, if_neg hj, if_pos hj2]; exact h⟩
          · rw [if_neg hj2] at h
            obtain ⟨a, b⟩ := ihr h
            exact ⟨by omega, by rw [get_node, if_neg hj, if_neg hj2]; exact b⟩
theorem get_one_same {x : α} : ∀ (f i : Nat), i < f → (one f x i).get i = some x
  | 0, i, h => by omega
  | f + 1, i, h => by
    rw [one_succ]
    by_cases h0 : i = 0
    · rw [if_pos h0, get_node, if_pos h0]
    · rw [if_neg h0]
      by_cases h2 : i % 2 = 0
      · rw [if_pos h2, get_node, if_neg h0, if_pos h2]; exact get_one_same f _ (by omega)
      · rw [if_neg h2, get_node, if_neg h0, if_neg h2]; exact get_one_same f _ (by omega)
theorem get_set_same {x : α} : ∀ (t : T α) (i : Nat), (t.set x i).get i = some x := by
  intro t
  induction t with
  | leaf => intro i; exact get_one_same (i + 1) i (by omega)
  | node l v r ihl ihr =>
    intro i
    rw [set_node]
    by_cases h0 : i = 0
    · rw [if_pos h0, get_node, if_pos h0]
    · rw [if_neg h0]
      by_cases h2 : i % 2 = 0
      · rw [if_pos h2, get_node, if_neg h0, if_pos h2]; exact ihl _
      · rw [if_neg h2, get_node, if_neg h0, if_neg h2]; exact ihr _
theorem get_set_other {x : α} : ∀ (t : T α) (i j : Nat), j ≠ i → (t.set x i).get j = t.get j := by
  intro t
  induction t with
  | leaf =>
    intro i j h
    cases hg : ((leaf : T α).set x i).get j with
    | none => rfl
    | some v => exact absurd (get_one (f := i + 1) hg).1 h
  | node l v r ihl ihr =>
    intro i j h
    rw [set_node]
    by_cases h0 : i = 0
    · have hj : ¬ j = 0 := fun e => h (by omega)
      rw [if_pos h0, get_node, get_node, if_neg hj, if_neg hj]
    · rw [if_neg h0]
      by_cases h2 : i % 2 = 0
      · rw [if_pos h2, get_node, get_node]
        by_cases hj0 : j = 0
        · rw [if_pos hj0, if_pos hj0]
        · rw [if_neg hj0, if_neg hj0]
          by_cases hj2 : j % 2 = 0
          · rw [if_pos hj2, if_pos hj2]; exact ihl _ _ (by omega)
          · rw [if_neg hj2, if_neg hj2]
      · rw [if_neg h2, get_node, get_node]
        by_cases hj0 : j = 0
        · rw [if_pos hj0, if_pos hj0]
        · rw [if_neg hj0, if_neg hj0]
          by_cases hj2 : j % 2 = 0
          · rw [if_pos hj2, if_pos hj2]
          · rw [if_neg hj2, if_neg hj2]; exact ihr _ _ (by omega)
end T

/- Lists by recursors: the kernel runs these quickly. -/
section
variable {α β : Type}
def lget (l : List α) : Nat → Option α :=
  List.rec (motive := fun _ => Nat → Option α) (fun _ => none) (fun a _ ih k => Nat.rec (some a) (fun k' _ => ih k') k) l
def ldrop (l : List α) : Nat → List α :=
  List.rec (motive := fun _ => Nat → List α) (fun _ => []) (fun a l' ih k => Nat.rec (a :: l') (fun k' _ => ih k') k) l
def ltake (l : List α) : Nat → List α :=
  List.rec (motive := fun _ => Nat → List α) (fun _ => []) (fun a _ ih k => Nat.rec [] (fun k' _ => a :: ih k') k) l
def lset (l : List α) (x : α) : Nat → List α :=
  List.rec (motive := fun _ => Nat → List α) (fun _ => []) (fun a l' ih k => Nat.rec (x :: l') (fun k' _ => a :: ih k') k) l
def llen (l : List α) : Nat :=
  List.rec (motive := fun _ => Nat → Nat) (fun n => n) (fun _ _ ih n => ih (Nat.succ n)) l 0
def lapp (l m : List α) : List α := List.rec m (fun a _ ih => a :: ih) l
def lmap (f : α → β) (l : List α) : List β := List.rec [] (fun a _ ih => f a :: ih) l
/-- overwrite from place k on -/
def lput (l : List α) (xs : List α) (k : Nat) : List α := lapp (ltake l k) (lapp xs (ldrop l (Nat.add k (llen xs))))
def lrep (n : Nat) (l : List α) : List α := Nat.rec [] (fun _ ih => lapp l ih) n
end
section
variable {α β : Type}
theorem lget_eq (l : List α) : ∀ k, lget l k = l[k]? := by
  induction l with
  | nil => intro k; rfl
  | cons a l ih => intro k; cases k with
    | zero => rfl
    | succ k => exact ih k
theorem ldrop_eq (l : List α) : ∀ k, ldrop l k = l.drop k := by
  induction l with
  | nil => intro k; exact (List.drop_nil).symm
  | cons a l ih => intro k; cases k with
    | zero => rfl
    | succ k => exact ih k
theorem ltake_eq (l : List α) : ∀ k, ltake l k = l.take k := by
  induction l with
  | nil => intro k; exact (List.take_nil).symm
  | cons a l ih => intro k; cases k with
    | zero => rfl
    | succ k => exact congrArg (a :: ·) (ih k)
theorem lset_eq (l : List α) (x : α) : ∀ k, lset l x k = l.set k x := by
  induction l with
  | nil => intro k; rfl
  | cons a l ih => intro k; cases k with
    | zero => rfl
    | succ k => exact congrArg (a :: ·) (ih k)
theorem llen_eq (l : List α) : llen l = l.length := by
  have key : ∀ (l : List α) (n : Nat), List.rec (motive := fun _ => Nat → Nat) (fun n => n) (fun _ _ ih n => ih (Nat.succ n)) l n = n + l.length := by
    intro l
    induction l with
    | nil => intro n; rfl
    | cons a l ih => intro n; exact (ih (n + 1)).trans (by simp; omega)
  exact (key l 0).trans (by simp)
theorem lapp_eq (l m : List α) : lapp l m = l ++ m := by
  induction l with
  | nil => rfl
  | cons a l ih => exact congrArg (a :: ·) ih
theorem lmap_eq (f : α → β) (l : List α) : lmap f l = l.map f := by
  induction l with
  | nil => rfl
  | cons a l ih => exact congrArg (f a :: ·) ih
theorem lput_eq (l xs : List α) (k : Nat) : lput l xs k = l.take k ++ (xs ++ l.drop (k + xs.length)) := by
  unfold lput
  rw [lapp_eq, lapp_eq, ltake_eq, ldrop_eq, llen_eq]; rfl
end

/-- An abstract value. 'any': nothing is known. A pointer names an abstract block and a cell; 'ex': the capacity is just cap, else it is at least cap. -/
inductive AV where
  | any
  | bool (b : Bool)
  | int (k : IntKind) (n : Int)
  | flt (k : FloatKind) (b : Nat)
  | str (n v : Nat)
  | nilp
  | ptr (i o : Nat)
  | nils
  | slc (i o len cap : Nat) (ex : Bool) (sz : Nat)
  | emp
  | nilm
  | map (i : Nat)
  | fn (f : Fn) (first cap : List AV)
  | nilf
  | ifc (t : TypeId) (v : AV)
  | nili
  | agg (cs : List AV)
  | tup (vs : List AV)
  deriving Inhabited

/-- bytes as one number, the first byte lowest -/
def pack (l : List UInt8) : Nat := List.rec 0 (fun c _ ih => Nat.add c.toNat (Nat.mul 256 ih)) l
def strOf (s : ByteArray) : AV := .str (llen s.data.toList) (pack s.data.toList)

/-- where an abstract block lies: its block, the cell at which it begins, how many cells the block has -/
structure Loc where
  B : Nat
  O : Nat
  E : Nat
abbrev LM := Nat → Option Loc

mutual
inductive RV (L : LM) : AV → Value → Prop where
  | any (v : Value) : RV L .any v
  | bool (b : Bool) : RV L (.bool b) (.bool b)
  | int (k : IntKind) (n : Int) : RV L (.int k n) (.int k n)
  | flt (k : FloatKind) (b : Nat) : RV L (.flt k b) (.float k b)
  | str (n v : Nat) (s : ByteArray) (h : strOf s = .str n v) : RV L (.str n v) (.string s)
  | nilp : RV L .nilp (.pointer none)
  | ptr (i o : Nat) (p : Loc) (h : L i = some p) : RV L (.ptr i o) (.pointer (some ⟨p.B, p.O + o, none⟩))
  | nils : RV L .nils (.slice none 0 0)
  | slc (i o len cap : Nat) (ex : Bool) (sz : Nat) (p : Loc) (c : Nat) (h : L i = some p) (hc : cap ≤ c) (hl : len ≤ cap) (hx : ex = true → c = cap) (he : p.O + o + c * sz ≤ p.E) :
      RV L (.slc i o len cap ex sz) (.slice (some ⟨p.B, p.O + o, none⟩) len c)
  | emp (a : Option Addr) (c : Nat) : RV L .emp (.slice a 0 c)
  | nilm : RV L .nilm (.map none)
  | map (i : Nat) (p : Loc) (h : L i = some p) : RV L (.map i) (.map (some p.B))
  | fn (f : Fn) (as bs : List AV) (xs ys : Array Value) (h1 : RVs L as xs.toList) (h2 : RVs L bs ys.toList) : RV L (.fn f as bs) (.func f xs ys)
  | nilf : RV L .nilf .nilFunc
  | ifc (t : TypeId) (a : AV) (v : Value) (h : RV L a v) : RV L (.ifc t a) (.iface t v)
  | nili : RV L .nili .nilIface
  | agg (cs : List AV) (xs : Array Value) (h : RVs L cs xs.toList) : RV L (.agg cs) (.agg xs)
  | tup (cs : List AV) (xs : Array Value) (h : RVs L cs xs.toList) : RV L (.tup cs) (.tuple xs)
inductive RVs (L : LM) : List AV → List Value → Prop where
  | nil : RVs L [] []
  | cons (a : AV) (v : Value) (as : List AV) (vs : List Value) (h : RV L a v) (hs : RVs L as vs) : RVs L (a :: as) (v :: vs)
end

def Ext (L L' : LM) : Prop := ∀ i p, L i = some p → L' i = some p
theorem Ext.refl (L : LM) : Ext L L := fun _ _ h => h
theorem Ext.trans {L L' L'' : LM} (h : Ext L L') (h' : Ext L' L'') : Ext L L'' := fun i p hp => h' i p (h i p hp)

mutual
theorem RV.mono {L L' : LM} (e : Ext L L') {a : AV} {v : Value} (h : RV L a v) : RV L' a v := by
  cases h with
  | any => exact .any _
  | bool => exact .bool _
  | int => exact .int _ _
  | flt => exact .flt _ _
  | str n v s h => exact .str n v s h
  | nilp => exact .nilp
  | ptr i o p h => exact .ptr i o p (e _ _ h)
  | nils => exact .nils
  | slc i o len cap ex sz p c h hc hl hx he => exact .slc i o len cap ex sz p c (e _ _ h) hc hl hx he
  | emp => exact .emp _ _
  | nilm => exact .nilm
  | map i p h => exact .map i p (e _ _ h)
  | fn f as bs xs ys h1 h2 => exact .fn f as bs xs ys (RVs.mono e h1) (RVs.mono e h2)
  | nilf => exact .nilf
  | ifc t a v h => exact .ifc t a v (RV.mono e h)
  | nili => exact .nili
  | agg cs xs h => exact .agg cs xs (RVs.mono e h)
  | tup cs xs h => exact .tup cs xs (RVs.mono e h)
theorem RVs.mono {L L' : LM} (e : Ext L L') {a : List AV} {v : List Value} (h : RVs L a v) : RVs L' a v := by
  cases h with
  | nil => exact .nil
  | cons a v as vs h hs => exact .cons _ _ _ _ (RV.mono e h) (RVs.mono e hs)
end

theorem RVs.length {L : LM} : ∀ {as : List AV} {vs : List Value}, RVs L as vs → as.length = vs.length
  | [], _, h => by cases h; rfl
  | _ :: as, _, h => by cases h with | cons a v as vs h hs => exact congrArg (· + 1) (RVs.length hs)
theorem RVs.get {L : LM} : ∀ {as : List AV} {vs : List Value}, RVs L as vs → ∀ {k : Nat} {a : AV}, as[k]? = some a → ∃ v, vs[k]? = some v ∧ RV L a v
  | [], _, _, k, a, hk => by simp at hk
  | b :: as, _, h, k, a, hk => by
    cases h with
    | cons b v as vs h hs =>
      cases k with
      | zero => simp at hk; subst hk; exact ⟨v, rfl, h⟩
      | succ k => exact RVs.get hs (by simpa using hk)
theorem RVs.append {L : LM} : ∀ {as bs : List AV} {vs ws : List Value}, RVs L as vs → RVs L bs ws → RVs L (as ++ bs) (vs ++ ws)
  | [], _, _, _, h, h' => by cases h; exact h'
  | _ :: as, _, _, _, h, h' => by cases h with | cons a v as vs h hs => exact .cons _ _ _ _ h (RVs.append hs h')
theorem RVs.take {L : LM} : ∀ {as : List AV} {vs : List Value}, RVs L as vs → ∀ k, RVs L (as.take k) (vs.take k)
  | [], _, h, k => by cases h; simp; exact .nil
  | _ :: as, _, h, k => by
    cases h with
    | cons a v as vs h hs => cases k with
      | zero => exact .nil
      | succ k => exact .cons _ _ _ _ h (RVs.take hs k)
theorem RVs.drop {L : LM} : ∀ {as : List AV} {vs : List Value}, RVs L as vs → ∀ k, RVs L (as.drop k) (vs.drop k)
  | [], _, h, k => by cases h; simp; exact .nil
  | _ :: as, _, h, k => by
    cases h with
    | cons a v as vs h hs => cases k with
      | zero => exact .cons _ _ _ _ h hs
      | succ k => exact RVs.drop hs k
theorem RVs.of_get {L : LM} : ∀ {as : List AV} {vs : List Value}, as.length = vs.length → (∀ (k : Nat) (a : AV), as[k]? = some a → ∃ v, vs[k]? = some v ∧ RV L a v) → RVs L as vs
  | [], [], _, _ => .nil
  | a :: as, v :: vs, hl, h => by
    refine .cons _ _ _ _ ?_ (RVs.of_get (by simpa using hl) fun k b hb => ?_)
    · obtain ⟨v', h1, h2⟩ := h 0 a rfl; simp at h1; exact h1 ▸ h2
    · obtain ⟨v', h1, h2⟩ := h (k + 1) b (by simpa using hb); exact ⟨v', by simpa using h1, h2⟩

/-- the cells of a value, as the model's Value.cells -/
def AV.cells (a : AV) : Option (List AV) := match a with
  | .agg cs => some cs
  | .any => none
  | .tup _ => none
  | v => some [v]
theorem RV.cells {L : LM} {a : AV} {v : Value} (h : RV L a v) {cs : List AV} (hc : a.cells = some cs) : RVs L cs v.cells.toList := by
  cases h <;> simp [AV.cells] at hc <;> subst hc <;> first
    | (refine RVs.cons _ _ _ _ ?_ .nil; constructor <;> assumption)
    | assumption

/-- a constant as an abstract value -/
def ofV0 : Value → AV
  | .bool b => .bool b
  | .int k n => .int k n
  | .float k b => .flt k b
  | .string s => strOf s
  | .pointer none => .nilp
  | .slice none 0 0 => .nils
  | .map none => .nilm
  | .nilFunc => .nilf
  | .nilIface => .nili
  | _ => .any
def ofV (v : Value) : AV := match v with
  | .agg cs => .agg (lmap ofV0 cs.toList)
  | v => ofV0 v
theorem rv_ofV0 (L : LM) (v : Value) : RV L (ofV0 v) v := by
  unfold ofV0
  split <;> first
    | exact .str _ _ _ rfl
    | constructor
theorem rvs_ofV0 (L : LM) : ∀ (vs : List Value), RVs L (vs.map ofV0) vs
  | [] => .nil
  | v :: vs => .cons _ _ _ _ (rv_ofV0 L v) (rvs_ofV0 L vs)
theorem rv_ofV (L : LM) (v : Value) : RV L (ofV v) v := by
  unfold ofV
  split
  · rw [lmap_eq]; exact .agg _ _ (rvs_ofV0 L _)
  · exact rv_ofV0 L _
end
end Go.X

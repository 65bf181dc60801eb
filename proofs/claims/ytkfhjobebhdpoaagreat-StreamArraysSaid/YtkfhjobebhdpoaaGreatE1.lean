/- The base of an abstract machine: tries, lists by recursors, abstract values, and what it is that a concrete value stands for an abstract one. -/
import Derived.Calls
import Derived.KernelRfl
import Derived.Laws.Entries
import Derived.Laws.Append
import Derived.Laws.CopyRow
import Derived.IntWalk
import Derived.Laws.Tables
import Derived.Laws.StructEq
import Derived.Laws.Small
import Derived.Laws.Strings
set_option linter.unusedVariables false
set_option linter.unusedSimpArgs false
set_option autoImplicit false
namespace Go.X
noncomputable section

/-- A trie whose keys are numbers. -/
inductive T (α : Type) where
  | leaf
  | node (l : T α) (v : Option α) (r : T α)

namespace T
variable {α : Type}
def get (t : T α) : Nat → Option α :=
  T.rec (motive := fun _ => Nat → Option α) (fun _ => none)
    (fun _ v _ ihl ihr i => Bool.rec (Bool.rec (ihr (Nat.div i 2)) (ihl (Nat.div i 2)) (Nat.beq (Nat.mod i 2) 0)) v (Nat.beq i 0)) t
def one (f : Nat) (x : α) : Nat → T α :=
  Nat.rec (motive := fun _ => Nat → T α) (fun _ => leaf)
    (fun _ ih i => Bool.rec (Bool.rec (node leaf none (ih (Nat.div i 2))) (node (ih (Nat.div i 2)) none leaf) (Nat.beq (Nat.mod i 2) 0)) (node leaf (some x) leaf) (Nat.beq i 0)) f
def set (t : T α) (x : α) : Nat → T α :=
  T.rec (motive := fun _ => Nat → T α) (fun i => one (Nat.succ i) x i)
    (fun l v r ihl ihr i => Bool.rec (Bool.rec (node l v (ihr (Nat.div i 2))) (node (ihl (Nat.div i 2)) v r) (Nat.beq (Nat.mod i 2) 0)) (node l (some x) r) (Nat.beq i 0)) t
def del (t : T α) : Nat → T α :=
  T.rec (motive := fun _ => Nat → T α) (fun _ => leaf)
    (fun l v r ihl ihr i => Bool.rec (Bool.rec (node l v (ihr (Nat.div i 2))) (node (ihl (Nat.div i 2)) v r) (Nat.beq (Nat.mod i 2) 0)) (node l none r) (Nat.beq i 0)) t

theorem get_leaf (i : Nat) : (leaf : T α).get i = none := rfl
theorem beq0 {i : Nat} : Nat.beq i 0 = decide (i = 0) := by
  cases i <;> simp [Nat.beq]
theorem get_node (l : T α) (v : Option α) (r : T α) (i : Nat) :
    (node l v r).get i = if i = 0 then v else if i % 2 = 0 then l.get (i / 2) else r.get (i / 2) := by
  show @Bool.rec (fun _ => Option α) (@Bool.rec (fun _ => Option α) (r.get (Nat.div i 2)) (l.get (Nat.div i 2)) (Nat.beq (Nat.mod i 2) 0)) v (Nat.beq i 0) = _
  rw [beq0, beq0]
  by_cases h : i = 0
  · simp [h]
  · by_cases h2 : i % 2 = 0
    · have h2' : Nat.mod i 2 = 0 := h2
      simp [h, h2, h2']; rfl
    · have h2' : ¬ Nat.mod i 2 = 0 := h2
      simp [h, h2, h2']; rfl
theorem one_succ (f : Nat) (x : α) (i : Nat) :
    one (f + 1) x i = if i = 0 then node leaf (some x) leaf else if i % 2 = 0 then node (one f x (i / 2)) none leaf else node leaf none (one f x (i / 2)) := by
  show @Bool.rec (fun _ => T α) (@Bool.rec (fun _ => T α) (node leaf none (one f x (Nat.div i 2))) (node (one f x (Nat.div i 2)) none leaf) (Nat.beq (Nat.mod i 2) 0)) (node leaf (some x) leaf) (Nat.beq i 0) = _
  rw [beq0, beq0]
  by_cases h : i = 0
  · simp [h]
  · by_cases h2 : i % 2 = 0
    · have h2' : Nat.mod i 2 = 0 := h2
      simp [h, h2, h2']; rfl
    · have h2' : ¬ Nat.mod i 2 = 0 := h2
      simp [h, h2, h2']; rfl
theorem set_node (l : T α) (v : Option α) (r : T α) (x : α) (i : Nat) :
    (node l v r).set x i = if i = 0 then node l (some x) r else if i % 2 = 0 then node (l.set x (i / 2)) v r else node l v (r.set x (i / 2)) := by
  show @Bool.rec (fun _ => T α) (@Bool.rec (fun _ => T α) (node l v (r.set x (Nat.div i 2))) (node (l.set x (Nat.div i 2)) v r) (Nat.beq (Nat.mod i 2) 0)) (node l (some x) r) (Nat.beq i 0) = _
  rw [beq0, beq0]
  by_cases h : i = 0
  · simp [h]
  · by_cases h2 : i % 2 = 0
    · have h2' : Nat.mod i 2 = 0 := h2
      simp [h, h2, h2']; rfl
    · have h2' : ¬ Nat.mod i 2 = 0 := h2
      simp [h, h2, h2']; rfl
theorem del_node (l : T α) (v : Option α) (r : T α) (i : Nat) :
    (node l v r).del i = if i = 0 then node l none r else if i % 2 = 0 then node (l.del (i / 2)) v r else node l v (r.del (i / 2)) := by
  show @Bool.rec (fun _ => T α) (@Bool.rec (fun _ => T α) (node l v (r.del (Nat.div i 2))) (node (l.del (Nat.div i 2)) v r) (Nat.beq (Nat.mod i 2) 0)) (node l none r) (Nat.beq i 0) = _
  rw [beq0, beq0]
  by_cases h : i = 0
  · simp [h]
  · by_cases h2 : i % 2 = 0
    · have h2' : Nat.mod i 2 = 0 := h2
      simp [h, h2, h2']; rfl
    · have h2' : ¬ Nat.mod i 2 = 0 := h2
      simp [h, h2, h2']; rfl
theorem get_one {f : Nat} {x : α} : ∀ {i j : Nat} {v : α}, (one f x i).get j = some v → j = i ∧ v = x := by
  induction f with
  | zero => intro i j v h; cases h
  | succ f ih =>
    intro i j v h
    rw [one_succ] at h
    by_cases hi : i = 0
    · rw [if_pos hi, get_node] at h
      by_cases hj : j = 0
      · rw [if_pos hj] at h; cases h; exact ⟨by omega, rfl⟩
      · rw [if_neg hj] at h; split at h <;> cases h
    · rw [if_neg hi] at h
      by_cases hi2 : i % 2 = 0
      · rw [if_pos hi2, get_node] at h
        by_cases hj : j = 0
        · rw [if_pos hj] at h; cases h
        · rw [if_neg hj] at h
          by_cases hj2 : j % 2 = 0
          · rw [if_pos hj2] at h; obtain ⟨a, b⟩ := ih h; exact ⟨by omega, b⟩
          · rw [if_neg hj2] at h; cases h
      · rw [if_neg hi2, get_node] at h
        by_cases hj : j = 0
        · rw [if_pos hj] at h; cases h
        · rw [if_neg hj] at h
          by_cases hj2 : j % 2 = 0
          · rw [if_pos hj2] at h; cases h
          · rw [if_neg hj2] at h; obtain ⟨a, b⟩ := ih h; exact ⟨by omega, b⟩
theorem get_set {t : T α} {x : α} : ∀ {i j : Nat} {v : α}, (t.set x i).get j = some v → (j = i ∧ v = x) ∨ (j ≠ i ∧ t.get j = some v) := by
  induction t with
  | leaf => intro i j v h; exact .inl (get_one (f := i + 1) h)
  | node l u r ihl ihr =>
    intro i j v h
    rw [set_node] at h
    by_cases hi : i = 0
    · rw [if_pos hi, get_node] at h
      by_cases hj : j = 0
      · rw [if_pos hj] at h; cases h; exact .inl ⟨by omega, rfl⟩
      · rw [if_neg hj] at h; exact .inr ⟨by omega, by rw [get_node, if_neg hj]; exact h⟩
    · rw [if_neg hi] at h
      by_cases hi2 : i % 2 = 0
      · rw [if_pos hi2, get_node] at h
        by_cases hj : j = 0
        · rw [if_pos hj] at h; exact .inr ⟨by omega, by rw [get_node, if_pos hj]; exact h⟩
        · rw [if_neg hj] at h
          by_cases hj2 : j % 2 = 0
          · rw [if_pos hj2] at h
            rcases ihl h with ⟨a, b⟩ | ⟨a, b⟩
            · exact .inl ⟨by omega, b⟩
            · exact .inr ⟨by omega, by rw [get_node, if_neg hj, if_pos hj2]; exact b⟩
          · rw [if_neg hj2] at h; exact .inr ⟨by omega, by rw [get_node, if_neg hj, if_neg hj2]; exact h⟩
      · rw [if_neg hi2, get_node] at h
        by_cases hj : j = 0
        · rw [if_pos hj] at h; exact .inr ⟨by omega, by rw [get_node, if_pos hj]; exact h⟩
        · rw [if_neg hj] at h
          by_cases hj2 : j % 2 = 0
          · rw [if_pos hj2] at h; exact .inr ⟨by omega, by rw [get_node, if_neg hj, if_pos hj2]; exact h⟩
          · rw [if_neg hj2] at h
            rcases ihr h with ⟨a, b⟩ | ⟨a, b⟩
            · exact .inl ⟨by omega, b⟩
            · exact .inr ⟨by omega, by rw [get_node, if_neg hj, if_neg hj2]; exact b⟩
theorem get_del {t : T α} : ∀ {i j : Nat} {v : α}, (t.del i).get j = some v → j ≠ i ∧ t.get j = some v := by
  induction t with
  | leaf => intro i j v h; cases h
  | node l u r ihl ihr =>
    intro i j v h
    rw [del_node] at h
    by_cases hi : i = 0
    · rw [if_pos hi, get_node] at h
      by_cases hj : j = 0
      · rw [if_pos hj] at h; cases h
      · rw [if_neg hj] at h; exact ⟨by omega, by rw [get_node, if_neg hj]; exact h⟩
    · rw [if_neg hi] at h
      by_cases hi2 : i % 2 = 0
      · rw [if_pos hi2, get_node] at h
        by_cases hj : j = 0
        · rw [if_pos hj] at h; exact ⟨by omega, by rw [get_node, if_pos hj]; exact h⟩
        · rw [if_neg hj] at h
          by_cases hj2 : j % 2 = 0
          · rw [if_pos hj2] at h
            obtain ⟨a, b⟩ := ihl h
            exact ⟨by omega, by rw [get_node, if_neg hj, if_pos hj2]; exact b⟩
          · rw [if_neg hj2] at h; exact ⟨by omega, by rw [get_node, if_neg hj, if_neg hj2]; exact h⟩
      · rw [if_neg hi2, get_node] at h
        by_cases hj : j = 0
        · rw [if_pos hj] at h; exact ⟨by omega, by rw [get_node, if_pos hj]; exact h⟩
        · rw [if_neg hj] at h
          by_cases hj2 : j % 2 = 0
          · rw [if_pos hj2] at h; exact ⟨by omega, by rw [get_node, if_neg hj, if_pos hj2]; exact h⟩
          · rw [if_neg hj2] at h
            obtain ⟨a, b⟩ := ihr h
            exact ⟨by omega, by rw [get_node, if_neg hj, if_neg hj2]; exact b⟩
theorem get_one_same {x : α} : ∀ (f i : Nat), i < f → (one f x i).get i = some x
  | 0, i, h => by omega
  | f + 1, i, h => by
    rw [one_succ]
    by_cases h0 : i = 0
    · rw [if_pos h0, get_node, if_pos h0]
    · rw [if_neg h0]
      by_cases h2 : i % 2 = 0
      · rw [if_pos h2, get_node, if_neg h0, if_pos h2]; exact get_one_same f _ (by omega)
      · rw [if_neg h2, get_node, if_neg h0, if_neg h2]; exact get_one_same f _ (by omega)
theorem get_set_same {x : α} : ∀ (t : T α) (i : Nat), (t.set x i).get i = some x := by
  intro t
  induction t with
  | leaf => intro i; exact get_one_same (i + 1) i (by omega)
  | node l v r ihl ihr =>
    intro i
    rw [set_node]
    by_cases h0 : i = 0
    · rw [if_pos h0, get_node, if_pos h0]
    · rw [if_neg h0]
      by_cases h2 : i % 2 = 0
      · rw [if_pos h2, get_node, if_neg h0, if_pos h2]; exact ihl _
      · rw [if_neg h2, get_node, if_neg h0, if_neg h2]; exact ihr _
theorem get_set_other {x : α} : ∀ (t : T α) (i j : Nat), j ≠ i → (t.set x i).get j = t.get j := by
  intro t
  induction t with
  | leaf =>
    intro i j h
    cases hg : ((leaf : T α).set x i).get j with
    | none => rfl
    | some v => exact absurd (get_one (f := i + 1) hg).1 h
  | node l v r ihl ihr =>
    intro i j h
    rw [set_node]
    by_cases h0 : i = 0
    · have hj : ¬ j = 0 := fun e => h (by omega)
      rw [if_pos h0, get_node, get_node, if_neg hj, if_neg hj]
    · rw [if_neg h0]
      by_cases h2 : i % 2 = 0
      · rw [if_pos h2, get_node, get_node]
        by_cases hj0 : j = 0
        · rw [if_pos hj0, if_pos hj0]
        · rw [if_neg hj0, if_neg hj0]
          by_cases hj2 : j % 2 = 0
          · rw [if_pos hj2, if_pos hj2]; exact ihl _ _ (by omega)
          · rw [if_neg hj2, if_neg hj2]
      · rw [if_neg h2, get_node, get_node]
        by_cases hj0 : j = 0
        · rw [if_pos hj0, if_pos hj0]
        · rw [if_neg hj0, if_neg hj0]
          by_cases hj2 : j % 2 = 0
          · rw [if_pos hj2, if_pos hj2]
          · rw [if_neg hj2, if_neg hj2]; exact ihr _ _ (by omega)
end T

/- Lists by recursors: the kernel runs these quickly. -/
section
variable {α β : Type}
def lget (l : List α) : Nat → Option α :=
  List.rec (motive := fun _ => Nat → Option α) (fun _ => none) (fun a _ ih k => Nat.rec (some a) (fun k' _ => ih k') k) l
def ldrop (l : List α) : Nat → List α :=
  List.rec (motive := fun _ => Nat → List α) (fun _ => []) (fun a l' ih k => Nat.rec (a :: l') (fun k' _ => ih k') k) l
def ltake (l : List α) : Nat → List α :=
  List.rec (motive := fun _ => Nat → List α) (fun _ => []) (fun a _ ih k => Nat.rec [] (fun k' _ => a :: ih k') k) l
def lset (l : List α) (x : α) : Nat → List α :=
  List.rec (motive := fun _ => Nat → List α) (fun _ => []) (fun a l' ih k => Nat.rec (x :: l') (fun k' _ => a :: ih k') k) l
def llen (l : List α) : Nat :=
  List.rec (motive := fun _ => Nat → Nat) (fun n => n) (fun _ _ ih n => ih (Nat.succ n)) l 0
def lapp (l m : List α) : List α := List.rec m (fun a _ ih => a :: ih) l
def lmap (f : α → β) (l : List α) : List β := List.rec [] (fun a _ ih => f a :: ih) l
/-- overwrite from place k on -/
def lput (l : List α) (xs : List α) (k : Nat) : List α := lapp (ltake l k) (lapp xs (ldrop l (Nat.add k (llen xs))))
def lrep (n : Nat) (l : List α) : List α := Nat.rec [] (fun _ ih => lapp l ih) n
end
section
variable {α β : Type}
theorem lget_eq (l : List α) : ∀ k, lget l k = l[k]? := by
  induction l with
  | nil => intro k; rfl
  | cons a l ih => intro k; cases k with
    | zero => rfl
    | succ k => exact ih k
theorem ldrop_eq (l : List α) : ∀ k, ldrop l k = l.drop k := by
  induction l with
  | nil => intro k; exact (List.drop_nil).symm
  | cons a l ih => intro k; cases k with
    | zero => rfl
    | succ k => exact ih k
theorem ltake_eq (l : List α) : ∀ k, ltake l k = l.take k := by
  induction l with
  | nil => intro k; exact (List.take_nil).symm
  | cons a l ih => intro k; cases k with
    | zero => rfl
    | succ k => exact congrArg (a :: ·) (ih k)
theorem lset_eq (l : List α) (x : α) : ∀ k, lset l x k = l.set k x := by
  induction l with
  | nil => intro k; rfl
  | cons a l ih => intro k; cases k with
    | zero => rfl
    | succ k => exact congrArg (a :: ·) (ih k)
theorem llen_eq (l : List α) : llen l = l.length := by
  have key : ∀ (l : List α) (n : Nat), List.rec (motive := fun _ => Nat → Nat) (fun n => n) (fun _ _ ih n => ih (Nat.succ n)) l n = n + l.length := by
    intro l
    induction l with
    | nil => intro n; rfl
    | cons a l ih => intro n; exact (ih (n + 1)).trans (by simp; omega)
  exact (key l 0).trans (by simp)
theorem lapp_eq (l m : List α) : lapp l m = l ++ m := by
  induction l with
  | nil => rfl
  | cons a l ih => exact congrArg (a :: ·) ih
theorem lmap_eq (f : α → β) (l : List α) : lmap f l = l.map f := by
  induction l with
  | nil => rfl
  | cons a l ih => exact congrArg (f a :: ·) ih
theorem lput_eq (l xs : List α) (k : Nat) : lput l xs k = l.take k ++ (xs ++ l.drop (k + xs.length)) := by
  unfold lput
  rw [lapp_eq, lapp_eq, ltake_eq, ldrop_eq, llen_eq]; rfl
end

/-- what a cell of a row holds that is told ahead: a number, or a slice (of block i, from its begin, n cells) whose cells are numbers that are told -/
inductive CV where
  | sc (n : Int)
  | row (i n : Nat) (c : Nat → Int)
/-- An abstract value. 'any': nothing is known. A pointer names an abstract block and a cell; 'ex': the capacity is just cap, else it is at least cap. -/
inductive AV where
  | any
  | bool (b : Bool)
  | int (k : IntKind) (n : Int)
  | flt (k : FloatKind) (b : Nat)
  | str (n v : Nat)
  | nilp
  | ptr (i o : Nat)
  | nils
  | slc (i o len cap : Nat) (ex : Bool) (sz : Nat)
  | emp
  | nilm
  | map (i : Nat)
  | fn (f : Fn) (first cap : List AV)
  | nilf
  | ifc (t : TypeId) (v : AV)
  | nili
  | agg (cs : List AV)
  | tup (vs : List AV)
  | yld (i : Nat)
  | vs (i o n : Nat) (g : Nat → CV)
  | vp (i o : Nat) (g : Nat → CV)
  deriving Inhabited

/-- bytes as one number, the first byte lowest -/
def pack (l : List UInt8) : Nat := List.rec 0 (fun c _ ih => Nat.add c.toNat (Nat.mul 256 ih)) l
def strOf (s : ByteArray) : AV := .str (llen s.data.toList) (pack s.data.toList)

/-- where an abstract block lies: its block, the cell at which it begins, how many cells the block has -/
structure Loc where
  B : Nat
  O : Nat
  E : Nat
abbrev LM := Nat → Option Loc

mutual
inductive RV (L : LM) : AV → Value → Prop where
  | any (v : Value) : RV L .any v
  | bool (b : Bool) : RV L (.bool b) (.bool b)
  | int (k : IntKind) (n : Int) : RV L (.int k n) (.int k n)
  | flt (k : FloatKind) (b : Nat) : RV L (.flt k b) (.float k b)
  | str (n v : Nat) (s : ByteArray) (h : strOf s = .str n v) : RV L (.str n v) (.string s)
  | nilp : RV L .nilp (.pointer none)
  | ptr (i o : Nat) (p : Loc) (h : L i = some p) : RV L (.ptr i o) (.pointer (some ⟨p.B, p.O + o, none⟩))
  | nils : RV L .nils (.slice none 0 0)
  | slc (i o len cap : Nat) (ex : Bool) (sz : Nat) (p : Loc) (c : Nat) (h : L i = some p) (hc : cap ≤ c) (hl : len ≤ cap) (hx : ex = true → c = cap) (he : p.O + o + c * sz ≤ p.E) :
      RV L (.slc i o len cap ex sz) (.slice (some ⟨p.B, p.O + o, none⟩) len c)
  | emp (a : Option Addr) (c : Nat) : RV L .emp (.slice a 0 c)
  | nilm : RV L .nilm (.map none)
  | map (i : Nat) (p : Loc) (h : L i = some p) : RV L (.map i) (.map (some p.B))
  | fn (f : Fn) (as bs : List AV) (xs ys : Array Value) (h1 : RVs L as xs.toList) (h2 : RVs L bs ys.toList) : RV L (.fn f as bs) (.func f xs ys)
  | nilf : RV L .nilf .nilFunc
  | ifc (t : TypeId) (a : AV) (v : Value) (h : RV L a v) : RV L (.ifc t a) (.iface t v)
  | nili : RV L .nili .nilIface
  | agg (cs : List AV) (xs : Array Value) (h : RVs L cs xs.toList) : RV L (.agg cs) (.agg xs)
  | tup (cs : List AV) (xs : Array Value) (h : RVs L cs xs.toList) : RV L (.tup cs) (.tuple xs)
  | yld (i : Nat) (p : Loc) (h : L i = some p) : RV L (.yld i) (.func (.yield p.B) #[] #[])
  | vs (i o n : Nat) (g : Nat → CV) (p : Loc) (c : Nat) (h : L i = some p) (hc : n ≤ c) (he : p.O + o + c ≤ p.E) : RV L (.vs i o n g) (.slice (some ⟨p.B, p.O + o, none⟩) n c)
  | vp (i o : Nat) (g : Nat → CV) (p : Loc) (h : L i = some p) : RV L (.vp i o g) (.pointer (some ⟨p.B, p.O + o, none⟩))
inductive RVs (L : LM) : List AV → List Value → Prop where
  | nil : RVs L [] []
  | cons (a : AV) (v : Value) (as : List AV) (vs : List Value) (h : RV L a v) (hs : RVs L as vs) : RVs L (a :: as) (v :: vs)
end

def Ext (L L' : LM) : Prop := ∀ i p, L i = some p → L' i = some p
theorem Ext.refl (L : LM) : Ext L L := fun _ _ h => h
theorem Ext.trans {L L' L'' : LM} (h : Ext L L') (h' : Ext L' L'') : Ext L L'' := fun i p hp => h' i p (h i p hp)

mutual
theorem RV.mono {L L' : LM} (e : Ext L L') {a : AV} {v : Value} (h : RV L a v) : RV L' a v := by
  cases h with
  | any => exact .any _
  | bool => exact .bool _
  | int => exact .int _ _
  | flt => exact .flt _ _
  | str n v s h => exact .str n v s h
  | nilp => exact .nilp
  | ptr i o p h => exact .ptr i o p (e _ _ h)
  | nils => exact .nils
  | slc i o len cap ex sz p c h hc hl hx he => exact .slc i o len cap ex sz p c (e _ _ h) hc hl hx he
  | emp => exact .emp _ _
  | nilm => exact .nilm
  | map i p h => exact .map i p (e _ _ h)
  | fn f as bs xs ys h1 h2 => exact .fn f as bs xs ys (RVs.mono e h1) (RVs.mono e h2)
  | nilf => exact .nilf
  | ifc t a v h => exact .ifc t a v (RV.mono e h)
  | nili => exact .nili
  | agg cs xs h => exact .agg cs xs (RVs.mono e h)
  | tup cs xs h => exact .tup cs xs (RVs.mono e h)
  | yld i p h => exact .yld i p (e _ _ h)
  | vs i o n g p c h hc he => exact .vs i o n g p c (e _ _ h) hc he
  | vp i o g p h => exact .vp i o g p (e _ _ h)
theorem RVs.mono {L L' : LM} (e : Ext L L') {a : List AV} {v : List Value} (h : RVs L a v) : RVs L' a v := by
  cases h with
  | nil => exact .nil
  | cons a v as vs h hs => exact .cons _ _ _ _ (RV.mono e h) (RVs.mono e hs)
end

theorem RVs.length {L : LM} : ∀ {as : List AV} {vs : List Value}, RVs L as vs → as.length = vs.length
  | [], _, h => by cases h; rfl
  | _ :: as, _, h => by cases h with | cons a v as vs h hs => exact congrArg (· + 1) (RVs.length hs)
theorem RVs.get {L : LM} : ∀ {as : List AV} {vs : List Value}, RVs L as vs → ∀ {k : Nat} {a : AV}, as[k]? = some a → ∃ v, vs[k]? = some v ∧ RV L a v
  | [], _, _, k, a, hk => by simp at hk
  | b :: as, _, h, k, a, hk => by
    cases h with
    | cons b v as vs h hs =>
      cases k with
      | zero => simp at hk; subst hk; exact ⟨v, rfl, h⟩
      | succ k => exact RVs.get hs (by simpa using hk)
theorem RVs.append {L : LM} : ∀ {as bs : List AV} {vs ws : List Value}, RVs L as vs → RVs L bs ws → RVs L (as ++ bs) (vs ++ ws)
  | [], _, _, _, h, h' => by cases h; exact h'
  | _ :: as, _, _, _, h, h' => by cases h with | cons a v as vs h hs => exact .cons _ _ _ _ h (RVs.append hs h')
theorem RVs.take {L : LM} : ∀ {as : List AV} {vs : List Value}, RVs L as vs → ∀ k, RVs L (as.take k) (vs.take k)
  | [], _, h, k => by cases h; simp; exact .nil
  | _ :: as, _, h, k => by
    cases h with
    | cons a v as vs h hs => cases k with
      | zero => exact .nil
      | succ k => exact .cons _ _ _ _ h (RVs.take hs k)
theorem RVs.drop {L : LM} : ∀ {as : List AV} {vs : List Value}, RVs L as vs → ∀ k, RVs L (as.drop k) (vs.drop k)
  | [], _, h, k => by cases h; simp; exact .nil
  | _ :: as, _, h, k => by
    cases h with
    | cons a v as vs h hs => cases k with
      | zero => exact .cons _ _ _ _ h hs
      | succ k => exact RVs.drop hs k
theorem RVs.of_get {L : LM} : ∀ {as : List AV} {vs : List Value}, as.length = vs.length → (∀ (k : Nat) (a : AV), as[k]? = some a → ∃ v, vs[k]? = some v ∧ RV L a v) → RVs L as vs
  | [], [], _, _ => .nil
  | a :: as, v :: vs, hl, h => by
    refine .cons _ _ _ _ ?_ (RVs.of_get (by simpa using hl) fun k b hb => ?_)
    · obtain ⟨v', h1, h2⟩ := h 0 a rfl; simp at h1; exact h1 ▸ h2
    · obtain ⟨v', h1, h2⟩ := h (k + 1) b (by simpa using hb); exact ⟨v', by simpa using h1, h2⟩

/-- the cells of a value, as the model's Value.cells -/
def AV.cells (a : AV) : Option (List AV) := match a with
  | .agg cs => some cs
  | .any => none
  | .tup _ => none
  | v => some [v]
theorem RV.cells {L : LM} {a : AV} {v : Value} (h : RV L a v) {cs : List AV} (hc : a.cells = some cs) : RVs L cs v.cells.toList := by
  cases h <;> simp [AV.cells] at hc <;> subst hc <;> first
    | (refine RVs.cons _ _ _ _ ?_ .nil; constructor <;> assumption)
    | assumption

/-! What is told ahead -/
def CV.av (c : CV) : AV := match c with
  | .sc n => .int .i64 n
  | .row i n g => .vs i 0 n fun k => .sc (g k)
theorem rv_vs {L : LM} {i o n cap : Nat} {ex : Bool} {g : Nat → CV} {v : Value} (h : RV L (.slc i o n cap ex 1) v) : RV L (.vs i o n g) v := by
  cases h with
  | slc _ _ _ _ _ _ p c hp hc hl hx he => exact .vs _ _ _ _ p c hp (by omega) (by omega)
theorem rv_sv {L : LM} {i o n : Nat} {g : Nat → CV} {v : Value} (h : RV L (.vs i o n g) v) : RV L (.slc i o n n false 1) v := by
  cases h with
  | vs _ _ _ _ p c hp hc he => exact .slc _ _ _ _ _ _ p c hp hc (Nat.le_refl _) (fun h => by cases h) (by omega)
/-- the cells from o on, n of them -/
def vcells (g : Nat → CV) (n o : Nat) : List AV := Nat.rec (motive := fun _ => Nat → List AV) (fun _ => []) (fun _ ih o => (g o).av :: ih (Nat.succ o)) n o
theorem vcells_succ (g : Nat → CV) (n o : Nat) : vcells g (n + 1) o = (g o).av :: vcells g n (o + 1) := rfl

/-- a constant as an abstract value -/
def ofV0 : Value → AV
  | .bool b => .bool b
  | .int k n => .int k n
  | .float k b => .flt k b
  | .string s => strOf s
  | .pointer none => .nilp
  | .slice none 0 0 => .nils
  | .map none => .nilm
  | .nilFunc => .nilf
  | .nilIface => .nili
  | _ => .any
def ofV (v : Value) : AV := match v with
  | .agg cs => .agg (lmap ofV0 cs.toList)
  | v => ofV0 v
theorem rv_ofV0 (L : LM) (v : Value) : RV L (ofV0 v) v := by
  unfold ofV0
  split <;> first
    | exact .str _ _ _ rfl
    | constructor
theorem rvs_ofV0 (L : LM) : ∀ (vs : List Value), RVs L (vs.map ofV0) vs
  | [] => .nil
  | v :: vs => .cons _ _ _ _ (rv_ofV0 L v) (rvs_ofV0 L vs)
theorem rv_ofV (L : LM) (v : Value) : RV L (ofV v) v := by
  unfold ofV
  split
  · rw [lmap_eq]; exact .agg _ _ (rvs_ofV0 L _)
  · exact rv_ofV0 L _
end
end Go.X
/- The abstract heap, and what it is that a world stands for it. -/
set_option autoImplicit false
namespace Go.X
noncomputable section

/-- a text's bytes as cells -/
def bytesOf (n v : Nat) : List AV := Nat.rec (motive := fun _ => Nat → List AV) (fun _ => []) (fun _ ih v => .int .u8 (Int.ofNat (Nat.mod v 256)) :: ih (Nat.div v 256)) n v
theorem bytesOf_get : ∀ (n v k : Nat), k < n → (bytesOf n v)[k]? = some (.int .u8 (Int.ofNat (v / 256 ^ k % 256)))
  | 0, v, k, h => by omega
  | n + 1, v, 0, h => by
    show some (AV.int .u8 (Int.ofNat (v % 256))) = _
    simp
  | n + 1, v, k + 1, h => by
    show (bytesOf n (v / 256))[k]? = _
    rw [bytesOf_get n (v / 256) k (by omega), Nat.div_div_eq_div_mul, Nat.pow_succ, Nat.mul_comm 256]
theorem bytesOf_length : ∀ (n v : Nat), (bytesOf n v).length = n
  | 0, v => rfl
  | n + 1, v => congrArg (· + 1) (bytesOf_length n (v / 256))
theorem bytesOf_int {n v k : Nat} {u : AV} (h : (bytesOf n v)[k]? = some u) : ∃ c, u = .int .u8 (Int.ofNat c) := by
  have hk : k < n := by have := (List.getElem?_eq_some_iff.1 h).1; rwa [bytesOf_length] at this
  rw [bytesOf_get n v k hk] at h
  exact ⟨_, (Option.some.inj h).symm⟩
/-- a value that names no block -/
inductive PV where
  | int (k : IntKind) (n : Int)
  | str (n v : Nat)
  | bool (b : Bool)
def PV.av (p : PV) : AV := match p with
  | .int k n => .int k n
  | .str n v => .str n v
  | .bool b => .bool b
def pvIsI (k : IntKind) (p : PV) : Bool := PV.rec (fun k' _ => Nat.beq (IntKind.rec 0 1 2 3 4 5 6 7 k') (IntKind.rec 0 1 2 3 4 5 6 7 k)) (fun _ _ => false) (fun _ => false) p
def pvI (p : PV) : Int := PV.rec (fun _ n => n) (fun _ _ => 0) (fun _ => 0) p
def pvIsS (p : PV) : Bool := PV.rec (fun _ _ => false) (fun _ _ => true) (fun _ => false) p
def pvL (p : PV) : Nat := PV.rec (fun _ _ => 0) (fun n _ => n) (fun _ => 0) p
def pvV (p : PV) : Nat := PV.rec (fun _ _ => 0) (fun _ v => v) (fun _ => 0) p
def pvIsB (p : PV) : Bool := PV.rec (fun _ _ => false) (fun _ _ => false) (fun _ => true) p
def pvB (p : PV) : Bool := PV.rec (fun _ _ => false) (fun _ _ => false) (fun b => b) p
theorem pv_int {k : IntKind} {p : PV} (h : pvIsI k p = true) : p.av = .int k (pvI p) := by
  cases p with
  | int k' n => cases k <;> cases k' <;> first | rfl | cases h
  | str n v => cases h
  | bool b => cases h
theorem pv_str {p : PV} (h : pvIsS p = true) : p.av = .str (pvL p) (pvV p) := by
  cases p with
  | int k' n => cases h
  | str n v => rfl
  | bool b => cases h
theorem pv_bool {p : PV} (h : pvIsB p = true) : p.av = .bool (pvB p) := by
  cases p with
  | int k' n => cases h
  | str n v => cases h
  | bool b => rfl
/-- s cells from cell o on -/
def pvCells (f : Nat → PV) (o s : Nat) : List AV := Nat.rec (motive := fun _ => Nat → List AV) (fun _ => []) (fun _ ih o => (f o).av :: ih (Nat.succ o)) s o
theorem pvCells_succ (f : Nat → PV) (o s : Nat) : pvCells f o (s + 1) = (f o).av :: pvCells f (o + 1) s := rfl
theorem pvCells_length (f : Nat → PV) : ∀ (s o : Nat), (pvCells f o s).length = s
  | 0, o => rfl
  | s + 1, o => by rw [pvCells_succ, List.length_cons, pvCells_length f s]
theorem pvCells_get (f : Nat → PV) : ∀ (s o k : Nat), k < s → (pvCells f o s)[k]? = some (f (o + k)).av
  | 0, o, k, h => by omega
  | s + 1, o, 0, h => by rw [pvCells_succ]; rfl
  | s + 1, o, k + 1, h => by
    rw [pvCells_succ, List.getElem?_cons_succ, pvCells_get f s (o + 1) k (by omega), show o + 1 + k = o + (k + 1) by omega]
/-- is a bit of a number set? -/
def bit (m i : Nat) : Bool := Nat.beq (Nat.mod (Nat.shiftRight m i) 2) 1
inductive Blk where
  | row (cells : List AV) (elem : TypeId) (wr : Bool) (ps : List Nat)
  | map (bs : List Nat) (ck : Nat) (es : List (AV × AV))
  | bts (n v : Nat) (e : TypeId)
  | pur (f : Nat → PV) (n : Nat) (e : TypeId)
  | loop (st : LoopState) (j : Option Code) (mask n : Nat) (env : T AV) (ps : List Nat) (assign body : Code)
  | it (x : AV) (since : Nat) (seen : List Nat) (last : Nat)

structure H where
  b : T Blk
  next : Nat

def Blk.wr (k : Blk) : Bool := match k with
  | .row _ _ wr _ => wr
  | .map _ _ _ => true
  | .bts _ _ _ => false
  | .pur _ _ _ => false
  | .loop _ _ _ _ _ _ _ _ => true
  | .it _ _ _ _ => true
def Blk.ps (k : Blk) : List Nat := match k with
  | .row _ _ _ ps => ps
  | _ => []

def RE (L : LM) (e : AV × AV) (m : MapEntry) : Prop := RV L e.1 m.key ∧ RV L e.2 m.val
inductive REs (L : LM) : List (AV × AV) → List MapEntry → Prop where
  | nil : REs L [] []
  | cons (e : AV × AV) (m : MapEntry) (es : List (AV × AV)) (ms : List MapEntry) (h : RE L e m) (hs : REs L es ms) : REs L (e :: es) (m :: ms)
theorem REs.mono {L L' : LM} (x : Ext L L') : ∀ {es : List (AV × AV)} {ms : List MapEntry}, REs L es ms → REs L' es ms
  | _, _, .nil => .nil
  | _, _, .cons _ _ _ _ h hs => .cons _ _ _ _ ⟨RV.mono x h.1, RV.mono x h.2⟩ (REs.mono x hs)

/-- a block as it stands in a world -/
def RB (L : LM) (k : Blk) (w : World) (p : Loc) : Prop := match k with
  | .row cells elem wr _ => ∃ c fz, w.heap[p.B]? = some (.cells c elem fz) ∧ (c.size = p.E ∧ p.O ≤ p.E) ∧ (wr = true → fz = (0, 0)) ∧
      ∀ k v, cells[k]? = some v → ∃ v', c[p.O + k]? = some v' ∧ RV L v v'
  | .map bs ck es => ∃ ms, w.heap[p.B]? = some (.map ms ck) ∧ REs L es ms.toList ∧ ms.toList.map (·.born) = bs
  | .bts n v e => ∃ c fz, w.heap[p.B]? = some (.cells c e fz) ∧ (c.size = p.E ∧ p.O ≤ p.E) ∧ ∀ k u, (bytesOf n v)[k]? = some u → ∃ v', c[p.O + k]? = some v' ∧ RV L u v'
  | .pur f n e => ∃ c fz, w.heap[p.B]? = some (.cells c e fz) ∧ (c.size = p.E ∧ p.O ≤ p.E) ∧ ∀ k, k < n → ∃ v', c[p.O + k]? = some v' ∧ RV L (f k).av v'
  | .loop st j mask n env ps assign body => ∃ r : Loop, w.heap[p.B]? = some (.loop r) ∧ (r.state = st ∧ r.pending = j ∧ r.params.toList = ps ∧ r.assign = assign ∧ r.body = body ∧ r.tmps.size = n) ∧
      ∀ t v, T.get env t = some v → RV L v (r.tmps.getD t undef) ∧ bit mask t = true
  | .it x since seen last => ∃ m, w.heap[p.B]? = some (.mapIter (some m) since seen.toArray last) ∧ p.O = 0 ∧ RV L x (.map (some m))

structure RH (L : LM) (h : H) (w : World) (U : Nat) : Prop where
  mem : ∀ i k p, h.b.get i = some k → L i = some p → RB L k w p
  sep : ∀ i j ki kj p q, h.b.get i = some ki → h.b.get j = some kj → L i = some p → L j = some q → i ≠ j → ki.wr = true → p.B = q.B → kj.wr = true ∧ p.O = q.O ∧ j ∈ ki.ps
  fresh : ∀ i, h.next ≤ i → i < U → L i = none
  below : ∀ i p, L i = some p → p.B < w.heap.size
  live : ∀ i k, h.b.get i = some k → i < h.next

def Own (L : LM) (h : H) (B : Nat) : Prop := ∃ i k p, h.b.get i = some k ∧ k.wr = true ∧ L i = some p ∧ p.B = B

structure Step (L L' : LM) (h h' : H) (w w' : World) : Prop where
  ext : Ext L L'
  size : w.heap.size ≤ w'.heap.size
  keep : ∀ B, B < w.heap.size → ¬ Own L h B → w'.heap[B]? = w.heap[B]?
  own : ∀ B, Own L' h' B → B < w.heap.size → Own L h B
  new : ∀ i p, L' i = some p → L i = some p ∨ (h.next ≤ i ∧ i < h'.next ∧ (w.heap.size ≤ p.B ∨ Own L h p.B))
  next : h.next ≤ h'.next
  os : w'.os = w.os
  output : w'.output = w.output
  tape : w'.tape = w.tape
  fro : ∀ a, a.block < w.heap.size → w'.frozen? a = w.frozen? a

theorem Step.refl (L : LM) (h : H) (w : World) : Step L L h h w w :=
  ⟨Ext.refl L, Nat.le_refl _, fun _ _ _ => rfl, fun _ h _ => h, fun _ _ h => .inl h, Nat.le_refl _, rfl, rfl, rfl, fun _ _ => rfl⟩
theorem Step.trans {L L' L'' : LM} {h h' h'' : H} {w w' w'' : World} (s : Step L L' h h' w w') (t : Step L' L'' h' h'' w' w'') : Step L L'' h h'' w w'' where
  ext := s.ext.trans t.ext
  size := Nat.le_trans s.size t.size
  keep := fun B hB ho => (t.keep B (Nat.lt_of_lt_of_le hB s.size) fun h => ho (s.own B h hB)).trans (s.keep B hB ho)
  own := fun B h hB => s.own B (t.own B h (Nat.lt_of_lt_of_le hB s.size)) hB
  new := fun i p hp => by
    have n1 := s.next
    have n2 := t.next
    have n3 := s.size
    rcases t.new i p hp with h1 | ⟨h1, h2, h3⟩
    · rcases s.new i p h1 with h4 | ⟨h4, h5, h6⟩
      · exact .inl h4
      · exact .inr ⟨h4, by omega, h6⟩
    · refine .inr ⟨by omega, h2, ?_⟩
      rcases h3 with h3 | h3
      · exact .inl (by omega)
      · rcases Nat.lt_or_ge p.B w.heap.size with h7 | h7
        · exact .inr (s.own _ h3 h7)
        · exact .inl h7
  next := Nat.le_trans s.next t.next
  os := t.os.trans s.os
  output := t.output.trans s.output
  tape := t.tape.trans s.tape
  fro := fun a ha => (t.fro a (Nat.lt_of_lt_of_le ha s.size)).trans (s.fro a ha)

theorem RB.mono {L L' : LM} (x : Ext L L') {k : Blk} {w : World} {p : Loc} (h : RB L k w p) : RB L' k w p := by
  cases k with
  | row cells elem wr g =>
    obtain ⟨c, fz, h1, h2, h3, h4⟩ := h
    exact ⟨c, fz, h1, h2, h3, fun k v hk => let ⟨v', a, b⟩ := h4 k v hk; ⟨v', a, b.mono x⟩⟩
  | map bs ck es => obtain ⟨ms, h1, h2, h3⟩ := h; exact ⟨ms, h1, h2.mono x, h3⟩
  | bts n v e => obtain ⟨c, fz, h1, h2, h4⟩ := h; exact ⟨c, fz, h1, h2, fun k v hk => let ⟨v', a, b⟩ := h4 k v hk; ⟨v', a, b.mono x⟩⟩
  | pur f n e => obtain ⟨c, fz, h1, h2, h4⟩ := h; exact ⟨c, fz, h1, h2, fun k hk => let ⟨v', a, b⟩ := h4 k hk; ⟨v', a, b.mono x⟩⟩
  | loop st j mask n env ps asg body => obtain ⟨r, h1, h2, h3⟩ := h; exact ⟨r, h1, h2, fun t v ht => ⟨(h3 t v ht).1.mono x, (h3 t v ht).2⟩⟩
  | it y since seen last => obtain ⟨m, h1, h2, h3⟩ := h; exact ⟨m, h1, h2, h3.mono x⟩
theorem RB.keep {L : LM} {k : Blk} {w w' : World} {p : Loc} (h : RB L k w p) (e : w'.heap[p.B]? = w.heap[p.B]?) : RB L k w' p := by
  cases k with
  | row cells elem wr g =>
    obtain ⟨c, fz, h1, h2⟩ := h
    exact ⟨c, fz, e.trans h1, h2⟩
  | map bs ck es => obtain ⟨ms, h1, h2⟩ := h; exact ⟨ms, e.trans h1, h2⟩
  | bts n v e' => obtain ⟨c, fz, h1, h2⟩ := h; exact ⟨c, fz, e.trans h1, h2⟩
  | pur f n e' => obtain ⟨c, fz, h1, h2⟩ := h; exact ⟨c, fz, e.trans h1, h2⟩
  | loop st j mask n env ps asg body => obtain ⟨r, h1, h2⟩ := h; exact ⟨r, e.trans h1, h2⟩
  | it y since seen last => obtain ⟨m, h1, h2⟩ := h; exact ⟨m, e.trans h1, h2⟩

/-- the world's draws do not matter -/
theorem RH.heap {L : LM} {h : H} {w w' : World} {U : Nat} (r : RH L h w U) (e : w'.heap = w.heap) : RH L h w' U where
  mem := fun i k p hi hp => (r.mem i k p hi hp).keep (by rw [e])
  sep := r.sep
  fresh := r.fresh
  below := fun i p h => by rw [e]; exact r.below i p h
  live := r.live

/-! Allocation -/
def lmNew (L : LM) (n : Nat) (p : Loc) : LM := fun i => if i = n then some p else L i
theorem lmNew_same (L : LM) (n : Nat) (p : Loc) : lmNew L n p n = some p := by simp [lmNew]
theorem lmNew_other {L : LM} {n i : Nat} {p : Loc} (h : i ≠ n) : lmNew L n p i = L i := by simp [lmNew, h]
theorem ext_new {L : LM} {n : Nat} {p : Loc} (h : L n = none) : Ext L (lmNew L n p) := fun i q hi => by
  by_cases e : i = n
  · subst e; rw [h] at hi; cases hi
  · rw [lmNew_other e]; exact hi

def hnew (h : H) (k : Blk) : H := ⟨h.b.set k h.next, Nat.succ h.next⟩
def hrow (h : H) (cells : List AV) (e : TypeId) : H := hnew h (.row cells e true [])

theorem alloc_heap (w : World) (o : Obj) (B : Nat) (h : B < w.heap.size) : (w.alloc o).heap[B]? = w.heap[B]? := by
  simp only [World.alloc, Array.getElem?_push]
  rw [if_neg (by omega)]
theorem alloc_new (w : World) (o : Obj) : (w.alloc o).heap[w.heap.size]? = some o := by
  simp only [World.alloc, Array.getElem?_push, if_true]
theorem fro_alloc (w : World) (c : Array Value) (t : TypeId) (a : Addr) : (w.alloc (.cells c t)).frozen? a = w.frozen? a := by
  unfold World.frozen?
  simp only [World.alloc, Array.getElem?_push]
  by_cases h : a.block = w.heap.size
  · rw [if_pos h, Array.getElem?_eq_none (by omega)]; simp
  · rw [if_neg h]
theorem fro_setRow {w : World} {g : Nat} {c c' : Array Value} {e : TypeId} {fz : Nat × Nat} (hc : w.heap[g]? = some (.cells c e fz)) (a : Addr) : (w.setRow g c').frozen? a = w.frozen? a := by
  by_cases h : a.block = g
  · have := setRow_heap w g c c' e fz hc
    unfold World.frozen?
    rw [h, this, hc]
  · unfold World.frozen?
    have : (w.setRow g c').heap[a.block]? = w.heap[a.block]? := by
      simp only [World.setRow, Array.getElem?_modify]
      rw [if_neg (by omega)]
    rw [this]
/-- blocks that are one but for the rows that they may be one with -/
def Same (k k' : Blk) : Prop := k' = k ∨ ∃ cells e wr ps ps', k = .row cells e wr ps ∧ k' = .row cells e wr ps'
theorem Same.wr {k k' : Blk} (s : Same k k') : k'.wr = k.wr := by
  rcases s with rfl | ⟨_, _, _, _, _, rfl, rfl⟩ <;> rfl
theorem Same.rb {k k' : Blk} (s : Same k k') {L : LM} {w : World} {p : Loc} (h : RB L k w p) : RB L k' w p := by
  rcases s with rfl | ⟨_, _, _, _, _, rfl, rfl⟩ <;> exact h
/-- a new block, in a heap that may have lost blocks -/
theorem rh_newG {L : LM} {h : H} {w : World} {U : Nat} (r : RH L h w U) (hU : Nat.succ h.next ≤ U) (k : Blk) (o : Obj) (ho : ∀ a, a.block < w.heap.size → (w.alloc o).frozen? a = w.frozen? a) (E : Nat)
    (hb : ∀ L', Ext L L' → RB L' k (w.alloc o) ⟨w.heap.size, 0, E⟩) (b' : T Blk)
    (hb' : ∀ j kj, b'.get j = some kj → (j = h.next ∧ kj = k) ∨ (j ≠ h.next ∧ ∃ k0, h.b.get j = some k0 ∧ Same k0 kj ∧ ∀ l kl, l ≠ j → l ≠ h.next → b'.get l = some kl → l ∈ k0.ps → l ∈ kj.ps)) :
    ∃ L', L' h.next = some ⟨w.heap.size, 0, E⟩ ∧ RH L' ⟨b', Nat.succ h.next⟩ (w.alloc o) U ∧ Step L L' h ⟨b', Nat.succ h.next⟩ w (w.alloc o) := by
  have hn := r.fresh h.next (Nat.le_refl _) hU
  have hx : Ext L (lmNew L h.next ⟨w.heap.size, 0, E⟩) := ext_new hn
  have old : ∀ {i p}, i ≠ h.next → lmNew L h.next ⟨w.heap.size, 0, E⟩ i = some p → L i = some p ∧ p.B < w.heap.size := by
    intro i p hi hp
    rw [lmNew_other hi] at hp
    exact ⟨hp, r.below _ _ hp⟩
  refine ⟨lmNew L h.next ⟨w.heap.size, 0, E⟩, lmNew_same _ _ _, ⟨?_, ?_, ?_, ?_, ?_⟩, ⟨hx, ?_, ?_, ?_, ?_, Nat.le_succ _, rfl, rfl, rfl, ho⟩⟩
  · intro i ki p hk hp
    rcases hb' i ki hk with ⟨rfl, rfl⟩ | ⟨hi, k0, hk, hs, _⟩
    · rw [lmNew_same] at hp; cases hp
      exact hb _ hx
    · obtain ⟨hp', hlt⟩ := old hi hp
      exact hs.rb (((r.mem _ _ _ hk hp').mono hx).keep (alloc_heap _ _ _ hlt))
  · intro i j ki kj p q hi hj hp hq hij hw hB
    rcases hb' i ki hi with ⟨rfl, rfl⟩ | ⟨hi', k0, hi0, hs, hl⟩
    · rcases hb' j kj hj with ⟨rfl, rfl⟩ | ⟨hj', k1, hj1, hs1, hl1⟩
      · exact absurd rfl hij
      · obtain ⟨_, d⟩ := old hj' hq
        rw [lmNew_same] at hp; cases hp
        simp at hB; omega
    · obtain ⟨a, d⟩ := old hi' hp
      rcases hb' j kj hj with ⟨rfl, rfl⟩ | ⟨hj', k1, hj1, hs1, hl1⟩
      · rw [lmNew_same] at hq; cases hq
        simp at hB; omega
      · obtain ⟨a', d'⟩ := old hj' hq
        obtain ⟨x, y, z⟩ := r.sep i j _ _ _ _ hi0 hj1 a a' hij (by rw [← hs.wr]; exact hw) hB
        exact ⟨by rw [hs1.wr]; exact x, y, hl j kj (Ne.symm hij) hj' hj z⟩
  · intro i hi hiu
    have : h.next < i := hi
    rw [lmNew_other (by omega)]
    exact r.fresh i (by omega) hiu
  · intro i p hp
    by_cases e : i = h.next
    · subst e; rw [lmNew_same] at hp; cases hp; simp
    · rw [lmNew_other e] at hp
      have := r.below i p hp
      simp; omega
  · intro i ki hk
    rcases hb' i ki hk with ⟨rfl, _⟩ | ⟨_, k0, hk, _⟩
    · exact Nat.lt_succ_self _
    · exact Nat.lt_succ_of_lt (r.live _ _ hk)
  · simp
  · intro B hB _; exact alloc_heap _ _ _ hB
  · rintro B ⟨i, ki, p, hi, hw, hp, rfl⟩ hB
    rcases hb' i ki hi with ⟨rfl, rfl⟩ | ⟨hi', k0, hi0, hs, _⟩
    · rw [lmNew_same] at hp; cases hp; simp at hB
    · obtain ⟨a, d⟩ := old hi' hp
      exact ⟨i, k0, p, hi0, by rw [← hs.wr]; exact hw, a, rfl⟩
  · intro i p hp
    by_cases e : i = h.next
    · subst e; rw [lmNew_same] at hp; cases hp; exact .inr ⟨Nat.le_refl _, Nat.lt_succ_self _, .inl (Nat.le_refl _)⟩
    · rw [lmNew_other e] at hp; exact .inl hp
/-- a new block -/
theorem rh_new {L : LM} {h : H} {w : World} {U : Nat} (r : RH L h w U) (hU : Nat.succ h.next ≤ U) (k : Blk) (o : Obj) (ho : ∀ a, a.block < w.heap.size → (w.alloc o).frozen? a = w.frozen? a) (E : Nat)
    (hb : ∀ L', Ext L L' → RB L' k (w.alloc o) ⟨w.heap.size, 0, E⟩) :
    ∃ L', L' h.next = some ⟨w.heap.size, 0, E⟩ ∧ RH L' (hnew h k) (w.alloc o) U ∧ Step L L' h (hnew h k) w (w.alloc o) :=
  rh_newG r hU k o ho E hb _ fun j kj hj => by
    rcases T.get_set hj with ⟨rfl, rfl⟩ | ⟨hi, hk⟩
    · exact .inl ⟨rfl, rfl⟩
    · exact .inr ⟨hi, kj, hk, .inl rfl, fun _ _ _ _ _ h => h⟩
theorem rh_row {L : LM} {h : H} {w : World} {U : Nat} (r : RH L h w U) (hU : Nat.succ h.next ≤ U) (cells : List AV) (e : TypeId) (c : Array Value)
    (hc : ∀ (k : Nat) (v : AV), cells[k]? = some v → ∃ v', c[k]? = some v' ∧ RV L v v') :
    ∃ L', L' h.next = some ⟨w.heap.size, 0, c.size⟩ ∧ RH L' (hrow h cells e) (w.alloc (.cells c e)) U ∧ Step L L' h (hrow h cells e) w (w.alloc (.cells c e)) :=
  rh_new r hU _ _ (fun a _ => fro_alloc _ _ _ a) _ fun _ hx => ⟨c, (0, 0), alloc_new _ _, ⟨rfl, Nat.zero_le _⟩, fun _ => rfl, fun k v hv =>
    let ⟨v', a, b⟩ := hc k v hv
    ⟨v', by simpa using a, b.mono hx⟩⟩
theorem hc_of_rvs {L : LM} {cells : List AV} {c : Array Value} (h : RVs L cells c.toList) (k : Nat) (v : AV) (hk : cells[k]? = some v) : ∃ v', c[k]? = some v' ∧ RV L v v' := by
  obtain ⟨v', a, b⟩ := RVs.get h hk
  exact ⟨v', by simpa using a, b⟩
/-! Writing -/
/-- strike of the rows ps all that reach beyond cell p, but row i -/
def killp (t : T Blk) (i p : Nat) (ps : List Nat) : T Blk :=
  List.rec t (fun q _ ih => Bool.rec (match t.get q with
    | some (.row cs _ _ _) => Bool.rec (ih.del q) ih (Nat.ble (llen cs) p)
    | some _ => ih.del q
    | none => ih) ih (Nat.beq q i)) ps
theorem get_killp {t : T Blk} {i p : Nat} : ∀ {ps : List Nat} {j : Nat} {k : Blk}, (killp t i p ps).get j = some k →
    t.get j = some k ∧ (j ≠ i → j ∈ ps → ∃ cs e wr qs, k = .row cs e wr qs ∧ cs.length ≤ p)
  | [], j, k, h => ⟨h, fun _ h => by cases h⟩
  | q :: ps, j, k, h => by
    have key : (killp t i p (q :: ps)) = Bool.rec (match t.get q with
      | some (.row cs _ _ _) => Bool.rec ((killp t i p ps).del q) (killp t i p ps) (Nat.ble (llen cs) p)
      | some _ => (killp t i p ps).del q
      | none => (killp t i p ps)) (killp t i p ps) (Nat.beq q i) := rfl
    rw [key] at h
    have keep : (killp t i p ps).get j = some k → (j = q → j ≠ i → ∃ cs e wr qs, k = .row cs e wr qs ∧ cs.length ≤ p) →
        t.get j = some k ∧ (j ≠ i → j ∈ q :: ps → ∃ cs e wr qs, k = .row cs e wr qs ∧ cs.length ≤ p) := by
      intro h h'
      obtain ⟨a, b⟩ := get_killp h
      refine ⟨a, fun hji hm => ?_⟩
      rcases List.mem_cons.1 hm with rfl | hm
      · exact h' rfl hji
      · exact b hji hm
    have strike : ((killp t i p ps).del q).get j = some k → t.get j = some k ∧ (j ≠ i → j ∈ q :: ps → ∃ cs e wr qs, k = .row cs e wr qs ∧ cs.length ≤ p) := by
      intro h
      obtain ⟨a, b⟩ := T.get_del h
      exact keep b fun e => absurd e a
    cases hq : Nat.beq q i with
    | true =>
      rw [hq] at h
      exact keep h fun e hji => by rw [e] at hji; exact absurd (Nat.eq_of_beq_eq_true hq) hji
    | false =>
      rw [hq] at h
      cases hg : t.get q with
      | none =>
        rw [hg] at h
        refine keep h fun e _ => ?_
        obtain ⟨a, _⟩ := get_killp h
        rw [e, hg] at a; cases a
      | some kq =>
        rw [hg] at h
        cases kq with
        | row cs e wr qs =>
          cases hl : Nat.ble (llen cs) p with
          | true =>
            simp only [hl] at h
            refine keep h fun ej _ => ?_
            obtain ⟨a, _⟩ := get_killp h
            rw [ej, hg] at a; cases a
            exact ⟨cs, e, wr, qs, rfl, by rw [← llen_eq]; exact Nat.le_of_ble_eq_true hl⟩
          | false => simp only [hl] at h; exact strike h
        | map bs ck es => exact strike h
        | bts n v e => exact strike h
        | pur f n e => exact strike h
        | loop st j mask n env ps asg body => exact strike h
        | it y since seen last => exact strike h

theorem setRow_heap_other (w : World) (g B : Nat) (c : Array Value) (h : B ≠ g) : (w.setRow g c).heap[B]? = w.heap[B]? := by
  simp only [World.setRow, Array.getElem?_modify]
  rw [if_neg (by omega)]

theorem rh_set {L : LM} {h : H} {w : World} {U : Nat} (r : RH L h w U) {i : Nat} {p : Loc} {cells : List AV} {e : TypeId} {ps : List Nat}
    (hi : h.b.get i = some (.row cells e true ps)) (hp : L i = some p) (c c' : Array Value) (hc : w.heap[p.B]? = some (.cells c e (0, 0))) (hsz : c'.size = c.size)
    (cells' : List AV) (hcells : ∀ (k : Nat) (v : AV), cells'[k]? = some v → ∃ v', c'[p.O + k]? = some v' ∧ RV L v v') (b' : T Blk)
    (hb : ∀ j k, b'.get j = some k → (j = i ∧ k = .row cells' e true ps) ∨ (j ≠ i ∧ h.b.get j = some k ∧
      (j ∈ ps → ∃ cs e' wr qs, k = .row cs e' wr qs ∧ ∀ n, n < cs.length → c'[p.O + n]? = c[p.O + n]?))) :
    RH L ⟨b', h.next⟩ (w.setRow p.B c') U ∧ Step L L h ⟨b', h.next⟩ w (w.setRow p.B c') := by
  have hsize : (w.setRow p.B c').heap.size = w.heap.size := by simp [World.setRow]
  have hnew := setRow_heap w p.B c c' e (0, 0) hc
  obtain ⟨hE, hO⟩ : c.size = p.E ∧ p.O ≤ p.E := by
    have hm := r.mem _ _ _ hi hp
    obtain ⟨c0, fz, h1, h2, _⟩ := hm
    rw [hc] at h1; cases h1; exact h2
  refine ⟨⟨?_, ?_, r.fresh, fun j q hq => by rw [hsize]; exact r.below j q hq, fun j k hj => by
    rcases hb j k hj with ⟨rfl, rfl⟩ | ⟨_, hk, _⟩
    · exact r.live _ _ hi
    · exact r.live _ _ hk⟩, ⟨Ext.refl L, by rw [hsize]; exact Nat.le_refl _, ?_, ?_, fun _ _ h => .inl h, Nat.le_refl _, rfl, rfl, rfl, fun a _ => fro_setRow hc a⟩⟩
  · intro j k q hj hq
    rcases hb j k hj with ⟨rfl, rfl⟩ | ⟨hji, hk, hps⟩
    · rw [hp] at hq; cases hq; exact ⟨c', (0, 0), hnew, ⟨hsz.trans hE, hO⟩, fun _ => rfl, hcells⟩
    · have hm := r.mem _ _ _ hk hq
      by_cases hB : p.B = q.B
      · obtain ⟨hw, hO', hmem⟩ := r.sep i j _ _ p q hi hk hp hq (Ne.symm hji) rfl hB
        obtain ⟨cs, e', wr, qs, rfl, hn⟩ := hps hmem
        obtain ⟨c0, fz, h1, h2, h3, h4⟩ := hm
        rw [← hB, hc] at h1; cases h1
        refine ⟨c', (0, 0), by rw [← hB]; exact hnew, ⟨hsz.trans h2.1, h2.2⟩, fun _ => rfl, fun n v hv => ?_⟩
        obtain ⟨v', a, b⟩ := h4 n v hv
        exact ⟨v', by rw [← hO', hn n (List.getElem?_eq_some_iff.1 hv).1, hO']; exact a, b⟩
      · exact hm.keep (setRow_heap_other _ _ _ _ fun e => hB e.symm)
  · intro j l kj kl q s hj hl hq hs hjl hw hB
    have back : ∀ {j k}, b'.get j = some k → ∃ k0, h.b.get j = some k0 ∧ k0.wr = k.wr ∧ k0.ps = k.ps := by
      intro j k hk
      rcases hb j k hk with ⟨rfl, rfl⟩ | ⟨_, hk, _⟩
      · exact ⟨_, hi, rfl, rfl⟩
      · exact ⟨k, hk, rfl, rfl⟩
    obtain ⟨kj0, a1, a2, a3⟩ := back hj
    obtain ⟨kl0, b1, b2, b3⟩ := back hl
    obtain ⟨x, y, z⟩ := r.sep j l _ _ q s a1 b1 hq hs hjl (a2.trans hw) hB
    exact ⟨b2 ▸ x, y, a3 ▸ z⟩
  · intro B hB ho
    exact setRow_heap_other _ _ _ _ fun e => ho ⟨i, _, p, hi, rfl, hp, e.symm⟩
  · rintro B ⟨j, k, q, hj, hw, hq, rfl⟩ _
    rcases hb j k hj with ⟨rfl, rfl⟩ | ⟨_, hk, _⟩
    · exact ⟨j, _, q, hi, rfl, hq, rfl⟩
    · exact ⟨j, k, q, hk, hw, hq, rfl⟩

def AV.one (a : AV) : Bool := match a with
  | .any => false
  | .agg _ => false
  | .tup _ => false
  | _ => true
theorem RV.one {L : LM} {a : AV} {v : Value} (h : RV L a v) (ha : a.one = true) : v.oneCell' = true := by
  cases h <;> first | rfl | cases ha
def ones (l : List AV) : Bool := List.rec true (fun a _ ih => Bool.rec false ih a.one) l
theorem ones_rv {L : LM} : ∀ {as : List AV} {vs : List Value}, RVs L as vs → ones as = true → ∀ v ∈ vs, v.oneCell' = true
  | _, _, .nil, _, v, hv => by cases hv
  | _, _, .cons a x as vs h hs, ho, v, hv => by
    have ho' : (Bool.rec false (ones as) a.one : Bool) = true := ho
    cases ha : a.one with
    | false => rw [ha] at ho'; cases ho'
    | true =>
      rw [ha] at ho'
      rcases List.mem_cons.1 hv with rfl | hv
      · exact h.one ha
      · exact ones_rv hs ho' v hv

/-- m: in symbolic mode a test is laid down, else it is run -/
def chk (m b : Bool) (K : Prop) : Prop := Bool.rec False K b
theorem chk_of {m b : Bool} {K : Prop} (h : chk m b K) : b = true ∧ K := by
  cases b with
  | true => exact ⟨rfl, h⟩
  | false => exact h.elim

/-- cells xs into row i from cell o on -/
def hwr (m : Bool) (h : H) (i o : Nat) (xs : List AV) (K : H → Prop) : Prop :=
  match h.b.get i with
  | some (.row cells e true ps) => chk m (Nat.ble (Nat.add o (llen xs)) (llen cells)) (Bool.rec False (K ⟨(killp h.b i o ps).set (.row (lput cells xs o) e true ps) i, h.next⟩) (ones xs))
  | _ => False

theorem arr_splice (c : Array Value) (k : Nat) (vs : List Value) (h : k + vs.length ≤ c.size) (n : Nat) :
    ((c.toList.take k ++ vs ++ c.toList.drop (k + vs.length)).toArray)[n]? = if n < k then c[n]? else if n < k + vs.length then vs[n - k]? else c[n]? := by
  have hk : (c.toList.take k).length = k := by simp; omega
  simp only [List.getElem?_toArray]
  by_cases h1 : n < k
  · rw [if_pos h1, List.append_assoc, List.getElem?_append_left (by omega), List.getElem?_take, if_pos h1]; simp
  · rw [if_neg h1]
    by_cases h2 : n < k + vs.length
    · rw [if_pos h2, List.getElem?_append_left (by simp; omega), List.getElem?_append_right (by omega), hk]
    · rw [if_neg h2, List.getElem?_append_right (by simp; omega), List.getElem?_drop]
      simp only [List.length_append, hk]
      rw [show k + vs.length + (n - (k + vs.length)) = n by omega]; simp
theorem list_splice {α : Type} (l xs : List α) (k : Nat) (h : k + xs.length ≤ l.length) (n : Nat) :
    (l.take k ++ (xs ++ l.drop (k + xs.length)))[n]? = if n < k then l[n]? else if n < k + xs.length then xs[n - k]? else l[n]? := by
  have hk : (l.take k).length = k := by simp; omega
  by_cases h1 : n < k
  · rw [if_pos h1, List.getElem?_append_left (by omega), List.getElem?_take, if_pos h1]
  · rw [if_neg h1, List.getElem?_append_right (by omega), hk]
    by_cases h2 : n < k + xs.length
    · rw [if_pos h2, List.getElem?_append_left (by omega)]
    · rw [if_neg h2, List.getElem?_append_right (by omega), List.getElem?_drop]
      rw [show k + xs.length + (n - k - xs.length) = n by omega]

theorem add_at (B o k : Nat) : (⟨B, o, none⟩ : Addr).add k = ⟨B, o + k, none⟩ := by
  unfold Addr.add; split
  · subst_vars; rfl
  · rfl

theorem hwr_sound {P : Program} {m : Bool} {L : LM} {h : H} {w : World} {U : Nat} (r : RH L h w U) {i o : Nat} {xs : List AV} {K : H → Prop} (hk : hwr m h i o xs K)
    {p : Loc} (hp : L i = some p) {vs : List Value} (hv : RVs L xs vs) :
    ∃ h' w', K h' ∧ (storeCells ⟨p.B, p.O + o, none⟩ vs).run P w = .ok () w' ∧ RH L h' w' U ∧ Step L L h h' w w' := by
  unfold hwr at hk
  split at hk
  · rename_i cells e ps hi
    obtain ⟨hle, hk⟩ := chk_of hk
    have ho : ones xs = true := by
      cases ho : ones xs with
      | true => rfl
      | false => rw [ho] at hk; exact hk.elim
    rw [ho] at hk
    have hle := Nat.le_of_ble_eq_true hle
    rw [llen_eq, llen_eq] at hle
    have hle : o + xs.length ≤ cells.length := hle
    have hm := r.mem _ _ _ hi hp
    obtain ⟨c, fz, h1, h2, h3, h4⟩ := hm
    have := h3 rfl; subst this
    have hlen := hv.length
    have hfit : p.O + o + vs.length ≤ c.size := by
      rcases Nat.eq_zero_or_pos cells.length with h0 | h0
      · have := h2.1; have := h2.2; omega
      · have hl : cells.length - 1 < cells.length := by omega
        obtain ⟨v', a, _⟩ := h4 (cells.length - 1) _ (List.getElem?_eq_getElem hl)
        have := (Array.getElem?_eq_some_iff.1 a).1
        omega
    have hrun := run_storeCells_at P p.B (p.O + o) e vs 0 c w h1 (by simpa using hfit) (ones_rv hv ho)
    refine ⟨_, _, hk, hrun, ?_⟩
    refine rh_set r hi hp c _ h1 (by simp; omega) (lput cells xs o) ?_ _ ?_
    · intro k v hkv
      rw [lput_eq, list_splice _ _ _ hle] at hkv
      rw [Nat.add_zero, arr_splice _ _ _ hfit]
      by_cases c1 : k < o
      · rw [if_pos c1] at hkv; rw [if_pos (by omega)]; exact h4 k v hkv
      · rw [if_neg c1] at hkv; rw [if_neg (by omega)]
        by_cases c2 : k < o + xs.length
        · rw [if_pos c2] at hkv; rw [if_pos (by omega), show p.O + k - (p.O + o) = k - o by omega]
          exact RVs.get hv hkv
        · rw [if_neg c2] at hkv; rw [if_neg (by omega)]; exact h4 k v hkv
    · intro j k hj
      rcases T.get_set hj with ⟨rfl, rfl⟩ | ⟨hji, hj⟩
      · exact .inl ⟨rfl, rfl⟩
      · obtain ⟨a, b⟩ := get_killp hj
        refine .inr ⟨hji, a, fun hm => ?_⟩
        obtain ⟨cs, e', wr, qs, rfl, hn⟩ := b hji hm
        refine ⟨cs, e', wr, qs, rfl, fun n hn' => ?_⟩
        rw [Nat.add_zero, arr_splice _ _ _ hfit, if_pos (by omega)]
  · exact hk.elim
end
end Go.X
/- Scalars: numbers and strings of the abstract machine. -/
set_option autoImplicit false
namespace Go.X
noncomputable section

/-! Numbers -/
def sIn (B : Nat) (n : Int) : Bool := Int.rec (fun m => Nat.ble (Nat.succ m) B) (fun m => Nat.ble (Nat.succ m) B) n
def uIn (B : Nat) (n : Int) : Bool := Int.rec (fun m => Nat.ble (Nat.succ m) B) (fun _ => false) n
def inR (k : IntKind) (n : Int) : Bool :=
  IntKind.rec (sIn 128 n) (sIn 32768 n) (sIn 2147483648 n) (sIn 9223372036854775808 n) (uIn 256 n) (uIn 65536 n) (uIn 4294967296 n) (uIn 18446744073709551616 n) k
theorem sIn_eq (B : Nat) (n : Int) : sIn B n = decide (-(B : Int) ≤ n ∧ n < B) := by
  cases n with
  | ofNat m =>
    show Nat.ble (m + 1) B = _
    rw [Bool.eq_iff_iff, Nat.ble_eq, decide_eq_true_iff]; simp; omega
  | negSucc m =>
    show Nat.ble (m + 1) B = _
    rw [Bool.eq_iff_iff, Nat.ble_eq, decide_eq_true_iff]; omega
theorem uIn_eq (B : Nat) (n : Int) : uIn B n = decide (0 ≤ n ∧ n < B) := by
  cases n with
  | ofNat m =>
    show Nat.ble (m + 1) B = _
    rw [Bool.eq_iff_iff, Nat.ble_eq, decide_eq_true_iff]; simp; omega
  | negSucc m =>
    show false = _
    rw [Bool.eq_iff_iff, decide_eq_true_iff]; simp
theorem wrap_in {k : IntKind} {n : Int} (h : inR k n = true) : k.wrap n = n := by
  cases k with
  | i8 => have h : sIn 128 n = true := h; rw [sIn_eq, decide_eq_true_iff] at h; simp [IntKind.wrap, IntKind.bits, IntKind.signed]; omega
  | i16 => have h : sIn 32768 n = true := h; rw [sIn_eq, decide_eq_true_iff] at h; simp [IntKind.wrap, IntKind.bits, IntKind.signed]; omega
  | i32 => have h : sIn 2147483648 n = true := h; rw [sIn_eq, decide_eq_true_iff] at h; simp [IntKind.wrap, IntKind.bits, IntKind.signed]; omega
  | i64 => have h : sIn 9223372036854775808 n = true := h; rw [sIn_eq, decide_eq_true_iff] at h; simp [IntKind.wrap, IntKind.bits, IntKind.signed]; omega
  | u8 => have h : uIn 256 n = true := h; rw [uIn_eq, decide_eq_true_iff] at h; simp [IntKind.wrap, IntKind.bits, IntKind.signed]; omega
  | u16 => have h : uIn 65536 n = true := h; rw [uIn_eq, decide_eq_true_iff] at h; simp [IntKind.wrap, IntKind.bits, IntKind.signed]; omega
  | u32 => have h : uIn 4294967296 n = true := h; rw [uIn_eq, decide_eq_true_iff] at h; simp [IntKind.wrap, IntKind.bits, IntKind.signed]; omega
  | u64 => have h : uIn 18446744073709551616 n = true := h; rw [uIn_eq, decide_eq_true_iff] at h; simp [IntKind.wrap, IntKind.bits, IntKind.signed]; omega
def sWr (B HB : Nat) (n : Int) : Int := Bool.rec (Int.emod n (Int.ofNat B)) (Int.sub (Int.emod n (Int.ofNat B)) (Int.ofNat B)) (Bool.not (sIn HB (Int.emod n (Int.ofNat B))))
def wrapQ (k : IntKind) (n : Int) : Int :=
  IntKind.rec (sWr 256 128 n) (sWr 65536 32768 n) (sWr 4294967296 2147483648 n) (sWr 18446744073709551616 9223372036854775808 n)
    (Int.emod n (Int.ofNat 256)) (Int.emod n (Int.ofNat 65536)) (Int.emod n (Int.ofNat 4294967296)) (Int.emod n (Int.ofNat 18446744073709551616)) k
theorem sWr_eq (B HB : Nat) (n : Int) (hB : 0 < B) : sWr B HB n = if n % (B : Int) ≥ HB then n % (B : Int) - B else n % (B : Int) := by
  show (Bool.rec (n % (B : Int)) (n % (B : Int) - (B : Int)) (!(sIn HB (n % (B : Int)))) : Int) = _
  have h0 := Int.emod_nonneg n (b := (B : Int)) (by omega)
  rw [sIn_eq]
  by_cases h : n % (B : Int) ≥ HB
  · have : decide (-(HB : Int) ≤ n % (B : Int) ∧ n % (B : Int) < HB) = false := by simp; omega
    rw [this, if_pos h]; rfl
  · have : decide (-(HB : Int) ≤ n % (B : Int) ∧ n % (B : Int) < HB) = true := by simp; omega
    rw [this, if_neg h]; rfl
theorem wrapQ_eq (k : IntKind) (n : Int) : wrapQ k n = k.wrap n := by
  cases k with
  | i8 => exact (sWr_eq 256 128 n (by decide)).trans (by simp [IntKind.wrap, IntKind.bits, IntKind.signed])
  | i16 => exact (sWr_eq 65536 32768 n (by decide)).trans (by simp [IntKind.wrap, IntKind.bits, IntKind.signed])
  | i32 => exact (sWr_eq 4294967296 2147483648 n (by decide)).trans (by simp [IntKind.wrap, IntKind.bits, IntKind.signed])
  | i64 => exact (sWr_eq 18446744073709551616 9223372036854775808 n (by decide)).trans (by simp [IntKind.wrap, IntKind.bits, IntKind.signed])
  | u8 => show n % ((256 : Nat) : Int) = _; simp [IntKind.wrap, IntKind.bits, IntKind.signed]
  | u16 => show n % ((65536 : Nat) : Int) = _; simp [IntKind.wrap, IntKind.bits, IntKind.signed]
  | u32 => show n % ((4294967296 : Nat) : Int) = _; simp [IntKind.wrap, IntKind.bits, IntKind.signed]
  | u64 => show n % ((18446744073709551616 : Nat) : Int) = _; simp [IntKind.wrap, IntKind.bits, IntKind.signed]
def wrapF (k : IntKind) (n : Int) : Int := Bool.rec (wrapQ k n) n (inR k n)
theorem wrapF_eq (k : IntKind) (n : Int) : wrapF k n = k.wrap n := by
  unfold wrapF
  cases h : inR k n with
  | true => exact (wrap_in h).symm
  | false => exact wrapQ_eq k n

def ltI (a b : Int) : Bool := Int.rec (fun a => Int.rec (fun b => Nat.ble (Nat.succ a) b) (fun _ => false) b) (fun a => Int.rec (fun _ => true) (fun b => Nat.ble (Nat.succ b) a) b) a
def eqI (a b : Int) : Bool := Int.rec (fun a => Int.rec (fun b => Nat.beq a b) (fun _ => false) b) (fun a => Int.rec (fun _ => false) (fun b => Nat.beq a b) b) a
theorem ltI_eq (a b : Int) : ltI a b = decide (a < b) := by
  cases a with
  | ofNat a => cases b with
    | ofNat b => show Nat.ble (a + 1) b = _; rw [Bool.eq_iff_iff, Nat.ble_eq, decide_eq_true_iff]; simp; omega
    | negSucc b => show false = _; rw [Bool.eq_iff_iff, decide_eq_true_iff]; simp; omega
  | negSucc a => cases b with
    | ofNat b => show true = _; rw [Bool.eq_iff_iff, decide_eq_true_iff]; simp; omega
    | negSucc b => show Nat.ble (b + 1) a = _; rw [Bool.eq_iff_iff, Nat.ble_eq, decide_eq_true_iff]; omega
theorem natBeq_iff {a b : Nat} : Nat.beq a b = true ↔ a = b := ⟨Nat.eq_of_beq_eq_true, fun h => by subst h; exact Nat.beq_refl a⟩
theorem eqI_eq (a b : Int) : eqI a b = (a == b) := by
  rw [Bool.eq_iff_iff, beq_iff_eq]
  cases a with
  | ofNat a => cases b with
    | ofNat b => show Nat.beq a b = true ↔ _; rw [natBeq_iff]; exact Int.ofNat_inj.symm
    | negSucc b => show false = true ↔ _; simp
  | negSucc a => cases b with
    | ofNat b => show false = true ↔ _; simp
    | negSucc b => show Nat.beq a b = true ↔ _; rw [natBeq_iff]; simp

/-- a number of kind k that is n wrapped; m: it is owed that nothing is wrapped, but where ds says 'false' -/
def ari (m : Bool) (k : IntKind) (n : Int) (ds : List Bool) (K : AV → List Bool → Prop) : Prop :=
  Bool.rec (K (.int k (wrapF k n)) ds) (List.rec (Bool.rec False (K (.int k n) []) (inR k n)) (fun d ds _ => Bool.rec (K (.int k (wrapF k n)) ds) (Bool.rec False (K (.int k n) ds) (inR k n)) d) ds) m
theorem ari_split {m : Bool} {k : IntKind} {n : Int} {ds : List Bool} {K : AV → List Bool → Prop} (h : ari m k n ds K) : ∃ ds', K (.int k (k.wrap n)) ds' ∧ ∀ K' : AV → List Bool → Prop, K' (.int k (k.wrap n)) ds' → ari m k n ds K' := by
  have sure : ∀ {ds : List Bool} {K : AV → List Bool → Prop}, (Bool.rec False (K (.int k n) ds) (inR k n) : Prop) → K (.int k (k.wrap n)) ds ∧ ∀ K' : AV → List Bool → Prop, K' (.int k (k.wrap n)) ds → (Bool.rec False (K' (.int k n) ds) (inR k n) : Prop) := by
    intro ds K h
    cases hr : inR k n with
    | false => rw [hr] at h; exact h.elim
    | true => rw [hr] at h; rw [wrap_in hr]; exact ⟨h, fun _ h => h⟩
  cases m with
  | false =>
    refine ⟨ds, by rw [← wrapF_eq]; exact h, fun K' hk => ?_⟩
    rw [← wrapF_eq] at hk; exact hk
  | true => cases ds with
    | nil => exact ⟨[], (sure h).1, (sure h).2⟩
    | cons d ds => cases d with
      | false =>
        refine ⟨ds, by rw [← wrapF_eq]; exact h, fun K' hk => ?_⟩
        rw [← wrapF_eq] at hk; exact hk
      | true => exact ⟨ds, (sure h).1, (sure h).2⟩
theorem ari_of {m : Bool} {k : IntKind} {n : Int} {ds : List Bool} {K : AV → List Bool → Prop} (h : ari m k n ds K) : ∃ ds', K (.int k (k.wrap n)) ds' :=
  let ⟨ds', a, _⟩ := ari_split h
  ⟨ds', a⟩
/-- the same, where a number that may be wrapped is but named -/
def arix (m : Bool) (k : IntKind) (n : Int) (ds : List Bool) (K : AV → List Bool → Prop) : Prop :=
  Bool.rec (K (.int k (wrapF k n)) ds) (List.rec (Bool.rec False (K (.int k n) []) (inR k n)) (fun d ds _ => Bool.rec (∃ z, z = wrapF k n ∧ K (.int k z) ds) (Bool.rec False (K (.int k n) ds) (inR k n)) d) ds) m
theorem arix_eq {m : Bool} {k : IntKind} {n : Int} {ds : List Bool} {K : AV → List Bool → Prop} : arix m k n ds K = ari m k n ds K := by
  cases m with
  | false => rfl
  | true => cases ds with
    | nil => rfl
    | cons d ds => cases d with
      | true => rfl
      | false => exact propext ⟨fun ⟨z, e, h⟩ => by subst e; exact h, fun h => ⟨_, rfl, h⟩⟩
/-- the lowest two bits of a number, told by four cases -/
def and3 (k : IntKind) (a : Int) (ds : List Bool) (K : AV → List Bool → Prop) : Prop :=
  Bool.rec (Bool.rec (Bool.rec (Bool.rec False (K (.int k (Int.ofNat 3)) ds) (eqI (Int.emod a (Int.ofNat 4)) (Int.ofNat 3))) (K (.int k (Int.ofNat 2)) ds) (eqI (Int.emod a (Int.ofNat 4)) (Int.ofNat 2))) (K (.int k (Int.ofNat 1)) ds) (eqI (Int.emod a (Int.ofNat 4)) (Int.ofNat 1)))
    (K (.int k (Int.ofNat 0)) ds) (eqI (Int.emod a (Int.ofNat 4)) (Int.ofNat 0))
def isThree (b : Int) : Bool := Int.rec (fun n => Nat.beq n 3) (fun _ => false) b
def andV (k : IntKind) (a b : Int) : Int := ((BitVec.ofInt k.bits a &&& BitVec.ofInt k.bits b).toNat : Int)
def xand (m : Bool) (k : IntKind) (a b : Int) (ds : List Bool) (K : AV → List Bool → Prop) : Prop :=
  Bool.rec (ari m k (andV k a b) ds K) (List.rec (ari m k (andV k a b) [] K) (fun d ds' _ => Bool.rec (Bool.rec (arix m k (andV k a b) (false :: ds') K) (and3 k a ds' K) (isThree b)) (ari m k (andV k a b) (true :: ds') K) d) ds) m
theorem isThree_eq {b : Int} (h : isThree b = true) : b = 3 := by
  cases b with
  | ofNat n => have h : Nat.beq n 3 = true := h; rw [Nat.eq_of_beq_eq_true h]; rfl
  | negSucc n => cases h
theorem andV_three (k : IntKind) (a : Int) : k.wrap (andV k a 3) = a % 4 := by
  have key : ∀ n, 2 ≤ n → ((BitVec.ofInt n a &&& BitVec.ofInt n 3).toNat : Int) = a % 4 := by
    intro n hn
    have h4 : (2 : Nat) ^ n = 4 * 2 ^ (n - 2) := by
      have : n = 2 + (n - 2) := by omega
      conv => lhs; rw [this, Nat.pow_add]
    have hp : 0 < 2 ^ (n - 2) := Nat.pow_pos (by omega)
    generalize 2 ^ (n - 2) = q at *
    rw [BitVec.toNat_and, BitVec.toNat_ofInt, BitVec.toNat_ofInt]
    have e3 : (3 % ((2 ^ n : Nat) : Int)).toNat = 2 ^ 2 - 1 := by
      rw [h4, Int.emod_eq_of_lt (by omega) (by omega)]; rfl
    rw [e3, Nat.and_two_pow_sub_one_eq_mod]
    have hnn : 0 ≤ a % ((2 ^ n : Nat) : Int) := Int.emod_nonneg _ (by omega)
    have e4 : a % ((2 ^ n : Nat) : Int) % 4 = a % 4 := by
      rw [h4]; push_cast
      exact Int.emod_emod_of_dvd a (Int.dvd_mul_right 4 q)
    have : (((a % ((2 ^ n : Nat) : Int)).toNat % 2 ^ 2 : Nat) : Int) = a % ((2 ^ n : Nat) : Int) % 4 := by
      rw [Int.natCast_emod, Int.toNat_of_nonneg hnn]; rfl
    rw [this, e4]
  have h := key k.bits (by cases k <;> decide)
  unfold andV
  rw [h]
  have := Int.emod_nonneg a (b := 4) (by omega)
  have := Int.emod_lt_of_pos a (b := 4) (by omega)
  refine wrap_in ?_
  generalize a % 4 = r at *
  obtain rfl | rfl | rfl | rfl : r = 0 ∨ r = 1 ∨ r = 2 ∨ r = 3 := by omega
  all_goals cases k <;> rfl
theorem and3_eq {k : IntKind} {a : Int} {ds : List Bool} {K : AV → List Bool → Prop} : and3 k a ds K = K (.int k (a % 4)) ds := by
  have h0 := Int.emod_nonneg a (b := 4) (by omega)
  have h1 := Int.emod_lt_of_pos a (b := 4) (by omega)
  unfold and3
  have e : Int.emod a (Int.ofNat 4) = a % 4 := rfl
  rw [e]
  generalize a % 4 = r at *
  obtain rfl | rfl | rfl | rfl : r = 0 ∨ r = 1 ∨ r = 2 ∨ r = 3 := by omega
  all_goals rfl
theorem xand_eq {m : Bool} {k : IntKind} {a b : Int} {ds : List Bool} {K : AV → List Bool → Prop} : xand m k a b ds K = ari m k (andV k a b) ds K := by
  cases m with
  | false => rfl
  | true => cases ds with
    | nil => rfl
    | cons d ds => cases d with
      | true => rfl
      | false =>
        show (Bool.rec (arix true k (andV k a b) (false :: ds) K) (and3 k a ds K) (isThree b) : Prop) = K (.int k (wrapF k (andV k a b))) ds
        cases h : isThree b with
        | false => exact arix_eq
        | true =>
          have := isThree_eq h
          subst this
          show and3 k a ds K = _
          rw [and3_eq, wrapF_eq, andV_three]
/-- a test's outcome; where the list of decisions says it, it is owed -/
def dcd (m b : Bool) (ds : List Bool) (K : Bool → List Bool → Prop) : Prop :=
  Bool.rec (Bool.rec (K false ds) (K true ds) b) (List.rec (Bool.rec (K false []) (K true []) b) (fun d ds _ => Bool.rec False (K d ds) (Bool.rec (Bool.not d) d b)) ds) m
theorem dcd_split {m b : Bool} {ds : List Bool} {K : Bool → List Bool → Prop} (h : dcd m b ds K) : ∃ ds', K b ds' ∧ ∀ K' : Bool → List Bool → Prop, K' b ds' → dcd m b ds K' := by
  cases m with
  | false => cases b <;> exact ⟨ds, h, fun _ h => h⟩
  | true => cases ds with
    | nil => cases b <;> exact ⟨[], h, fun _ h => h⟩
    | cons d ds => cases b <;> cases d <;> first | exact ⟨ds, h, fun _ h => h⟩ | exact False.elim h
theorem dcd_of {m b : Bool} {ds : List Bool} {K : Bool → List Bool → Prop} (h : dcd m b ds K) : ∃ ds', K b ds' :=
  let ⟨ds', a, _⟩ := dcd_split h
  ⟨ds', a⟩

/-! Strings -/
theorem pack_cons (c : UInt8) (l : List UInt8) : pack (c :: l) = c.toNat + 256 * pack l := rfl
theorem pack_lt (l : List UInt8) : pack l < 256 ^ l.length := by
  induction l with
  | nil => simp [pack]
  | cons c l ih =>
    have := c.toNat_lt
    rw [pack_cons, List.length_cons, Nat.pow_succ]
    omega
theorem pack_inj : ∀ {l l' : List UInt8}, l.length = l'.length → pack l = pack l' → l = l'
  | [], [], _, _ => rfl
  | c :: l, c' :: l', hl, hp => by
    rw [pack_cons, pack_cons] at hp
    have h1 := c.toNat_lt
    have h2 := c'.toNat_lt
    have hc : c.toNat = c'.toNat := by omega
    have hp' : pack l = pack l' := by omega
    rw [pack_inj (by simpa using hl) hp', UInt8.toNat_inj.1 hc]
theorem pack_append (l l' : List UInt8) : pack (l ++ l') = pack l + 256 ^ l.length * pack l' := by
  induction l with
  | nil => simp [pack]
  | cons c l ih =>
    rw [List.cons_append, pack_cons, pack_cons, ih, List.length_cons, Nat.pow_succ, Nat.mul_add, ← Nat.mul_assoc, Nat.mul_comm 256 (256 ^ l.length)]
    omega
theorem pack_drop : ∀ (l : List UInt8) (k : Nat), pack (l.drop k) = pack l / 256 ^ k
  | l, 0 => by simp
  | [], k + 1 => by simp [pack]
  | c :: l, k + 1 => by
    have := c.toNat_lt
    rw [List.drop_succ_cons, pack_drop l k, pack_cons, Nat.pow_succ, Nat.mul_comm (256 ^ k) 256, ← Nat.div_div_eq_div_mul]
    congr 1
    omega
theorem pack_take : ∀ (l : List UInt8) (k : Nat), pack (l.take k) = pack l % 256 ^ k
  | l, 0 => by simp [pack, Nat.mod_one]
  | [], k + 1 => by simp [pack]
  | c :: l, k + 1 => by
    have hc := c.toNat_lt
    rw [List.take_succ_cons, pack_cons, pack_cons, pack_take l k, Nat.pow_succ, Nat.mul_comm (256 ^ k) 256, Nat.mod_mul]
    have h1 : (c.toNat + 256 * pack l) % 256 = c.toNat := by omega
    have h2 : (c.toNat + 256 * pack l) / 256 = pack l := by omega
    rw [h1, h2]
theorem pack_head (l : List UInt8) (c : UInt8) (h : l[0]? = some c) : pack l % 256 = c.toNat := by
  cases l with
  | nil => cases h
  | cons d l => simp at h; subst h; have := d.toNat_lt; rw [pack_cons]; omega
def byteAt (v i : Nat) : Nat := Nat.mod (Nat.shiftRight v (Nat.mul 8 i)) 256
theorem pow8 (i : Nat) : 2 ^ (8 * i) = 256 ^ i := by rw [Nat.pow_mul]
theorem shr8 (v i : Nat) : Nat.shiftRight v (Nat.mul 8 i) = v / 256 ^ i := by
  show v >>> (8 * i) = _
  rw [Nat.shiftRight_eq_div_pow, pow8]
theorem byteAt_eq (l : List UInt8) (i : Nat) (c : UInt8) (h : l[i]? = some c) : byteAt (pack l) i = c.toNat := by
  show Nat.shiftRight (pack l) (Nat.mul 8 i) % 256 = _
  rw [shr8, ← pack_drop]
  exact pack_head _ c (by simpa using h)
def subV (v l h : Nat) : Nat := Nat.mod (Nat.shiftRight v (Nat.mul 8 l)) (Nat.pow 256 (Nat.sub h l))
theorem subV_eq (s : List UInt8) (l h : Nat) : subV (pack s) l h = pack ((s.drop l).take (h - l)) := by
  show Nat.shiftRight (pack s) (Nat.mul 8 l) % 256 ^ (h - l) = _
  rw [shr8, ← pack_drop, ← pack_take]
def catV (n v v' : Nat) : Nat := Nat.add v (Nat.shiftLeft v' (Nat.mul 8 n))
theorem catV_eq (l l' : List UInt8) : catV l.length (pack l) (pack l') = pack (l ++ l') := by
  show pack l + (pack l') <<< (8 * l.length) = _
  rw [pack_append, Nat.shiftLeft_eq, pow8, Nat.mul_comm (pack l')]
theorem strOf_eq (s : ByteArray) : strOf s = .str s.size (pack s.data.toList) := by
  unfold strOf; rw [llen_eq]; rfl
theorem strOf_str {s : ByteArray} {n v : Nat} (h : strOf s = .str n v) : s.size = n ∧ s.data.toList.length = n ∧ v = pack s.data.toList := by
  rw [strOf_eq] at h; cases h; exact ⟨rfl, rfl, rfl⟩
theorem strOf_inj {s t : ByteArray} (hn : s.size = t.size) (hv : pack s.data.toList = pack t.data.toList) : s = t := by
  have := pack_inj (l := s.data.toList) (l' := t.data.toList) hn hv
  cases s; cases t; congr 1; exact Array.ext' this
end
end Go.X
/- The operations of the abstract machine that compute or look into memory, and that the model's do as they do. -/
set_option autoImplicit false
namespace Go.X
noncomputable section

abbrev KV := AV → H → List Bool → Prop

def SemOK (P : Program) (s : Sem Value) (L : LM) (h : H) (w : World) (U : Nat) (K : KV) : Prop :=
  ∃ v h' ds' L' v' w', K v h' ds' ∧ s.run P w = .ok v' w' ∧ RV L' v v' ∧ RH L' h' w' U ∧ Step L L' h h' w w'
theorem SemOK.same {P : Program} {s : Sem Value} {L : LM} {h : H} {w : World} {U : Nat} {K : KV} (r : RH L h w U) {v : AV} {ds : List Bool} {v' : Value}
    (hk : K v h ds) (hr : s.run P w = .ok v' w) (hv : RV L v v') : SemOK P s L h w U K :=
  ⟨v, h, ds, L, v', w, hk, hr, hv, r, Step.refl L h w⟩

def IntKind.num (k : IntKind) : Nat := IntKind.rec 0 1 2 3 4 5 6 7 k
theorem kind_num {k k' : IntKind} (h : Nat.beq (IntKind.num k) (IntKind.num k') = true) : k = k' := by
  cases k <;> cases k' <;> first | rfl | cases h

/-! Numbers -/
def xbits (m : Bool) (op : BinOp) (k : IntKind) (a b : Int) (ds : List Bool) (K : AV → List Bool → Prop) : Prop :=
  match op with
  | .and => xand m k a b ds K
  | .or => arix m k ((BitVec.ofInt k.bits a ||| BitVec.ofInt k.bits b).toNat : Int) ds K
  | .xor => arix m k ((BitVec.ofInt k.bits a ^^^ BitVec.ofInt k.bits b).toNat : Int) ds K
  | .andNot => arix m k ((BitVec.ofInt k.bits a &&& ~~~BitVec.ofInt k.bits b).toNat : Int) ds K
  | _ => False
def xint (m : Bool) (op : BinOp) (k : IntKind) (a b : Int) (ds : List Bool) (K : AV → List Bool → Prop) : Prop :=
  match op with
  | .add => ari m k (a + b) ds K
  | .sub => ari m k (a - b) ds K
  | .mul => ari m k (a * b) ds K
  | .quo => chk m (Bool.not (eqI b 0)) (ari m k (Int.tdiv a b) ds K)
  | .rem => chk m (Bool.not (eqI b 0)) (K (.int k (Int.tmod a b)) ds)
  | .eql => dcd m (eqI a b) ds fun b ds => K (.bool b) ds
  | .neq => dcd m (eqI a b) ds fun b ds => K (.bool (Bool.not b)) ds
  | .lss => dcd m (ltI a b) ds fun b ds => K (.bool b) ds
  | .leq => dcd m (ltI b a) ds fun b ds => K (.bool (Bool.not b)) ds
  | .gtr => dcd m (ltI b a) ds fun b ds => K (.bool b) ds
  | .geq => dcd m (ltI a b) ds fun b ds => K (.bool (Bool.not b)) ds
  | op => xbits m op k a b ds K
def xshift (m : Bool) (op : BinOp) (k : IntKind) (a b : Int) (ds : List Bool) (K : AV → List Bool → Prop) : Prop :=
  chk m (Bool.not (ltI b 0)) (match op with
    | .shl => ari m k (a * Int.ofNat (Nat.pow 2 (min b.toNat k.bits))) ds K
    | .shr => K (.int k (Int.fdiv a (Int.ofNat (Nat.pow 2 (min b.toNat k.bits))))) ds
    | _ => False)
def xstr (m : Bool) (op : BinOp) (n v n' v' : Nat) (ds : List Bool) (K : AV → List Bool → Prop) : Prop :=
  match op with
  | .add => chk m (Nat.ble (Nat.add n n') 9223372036854775807) (K (.str (Nat.add n n') (catV n v v')) ds)
  | .eql => dcd m (Bool.and (Nat.beq n n') (Nat.beq v v')) ds fun b ds => K (.bool b) ds
  | .neq => dcd m (Bool.and (Nat.beq n n') (Nat.beq v v')) ds fun b ds => K (.bool (Bool.not b)) ds
  | _ => False

section
variable {P : Program} {L : LM} {h : H} {w : World} {U : Nat} {m : Bool} {ds : List Bool} {K : KV}

theorem not_eqI {b : Int} (h : Bool.not (eqI b 0) = true) : b ≠ 0 := by
  intro e; subst e; cases h
theorem not_ltI {b : Int} (h : Bool.not (ltI b 0) = true) : ¬ b < 0 := by
  rw [ltI_eq] at h; simpa using h
theorem xbits_sound (r : RH L h w U) {op : BinOp} {k : IntKind} {a b : Int} (hx : xbits m op k a b ds fun v ds => K v h ds) :
    SemOK P (Op.intBits op k a b) L h w U K := by
  unfold xbits at hx
  simp only [arix_eq, xand_eq, andV] at hx
  cases op <;> simp only at hx <;> first
    | exact hx.elim
    | (obtain ⟨ds', hk⟩ := ari_of hx; exact .same r hk (by simp only [Op.intBits]; rfl) (.int _ _))
theorem xint_sound (r : RH L h w U) {op : BinOp} {t : TypeId} {k : IntKind} {a b : Int} (hop : op ≠ .shl ∧ op ≠ .shr) (hx : xint m op k a b ds fun v ds => K v h ds) :
    SemOK P (binOp op t (.int k a) (.int k b)) L h w U K := by
  cases op <;> simp only [xint] at hx
  case add => obtain ⟨ds', hk⟩ := ari_of hx; exact .same r hk (by simp [binOp, Op.intArith]) (.int _ _)
  case sub => obtain ⟨ds', hk⟩ := ari_of hx; exact .same r hk (by simp [binOp, Op.intArith]) (.int _ _)
  case mul => obtain ⟨ds', hk⟩ := ari_of hx; exact .same r hk (by simp [binOp, Op.intArith]) (.int _ _)
  case quo =>
    obtain ⟨h0, hx⟩ := chk_of hx
    obtain ⟨ds', hk⟩ := ari_of hx
    exact .same r hk (by simp [binOp, Op.intDiv, not_eqI h0]) (.int _ _)
  case rem =>
    obtain ⟨h0, hk⟩ := chk_of hx
    exact .same r hk (by simp [binOp, Op.intDiv, not_eqI h0]) (.int _ _)
  case eql => obtain ⟨ds', hk⟩ := dcd_of hx; exact .same r hk (by simp [binOp, Op.intCmp, eqI_eq]) (.bool _)
  case neq => obtain ⟨ds', hk⟩ := dcd_of hx; exact .same r hk (by simp [binOp, Op.intCmp, eqI_eq, bne]) (.bool _)
  case lss => obtain ⟨ds', hk⟩ := dcd_of hx; exact .same r hk (by simp [binOp, Op.intCmp, ltI_eq]) (.bool _)
  case leq => obtain ⟨ds', hk⟩ := dcd_of hx; exact .same r hk (by simp only [binOp, Op.intCmp, ltI_eq]; simp [← Int.not_lt]) (.bool _)
  case gtr => obtain ⟨ds', hk⟩ := dcd_of hx; exact .same r hk (by simp [binOp, Op.intCmp, ltI_eq]) (.bool _)
  case geq => obtain ⟨ds', hk⟩ := dcd_of hx; exact .same r hk (by simp only [binOp, Op.intCmp, ltI_eq]; simp [← Int.not_lt]) (.bool _)
  case shl => exact absurd rfl hop.1
  case shr => exact absurd rfl hop.2
  case and => simpa [binOp] using xbits_sound r hx
  case or => simpa [binOp] using xbits_sound r hx
  case xor => simpa [binOp] using xbits_sound r hx
  case andNot => simpa [binOp] using xbits_sound r hx
theorem pow_int (n : Nat) : (Int.ofNat (Nat.pow 2 n)) = (2 : Int) ^ n := by
  show ((2 ^ n : Nat) : Int) = _
  simp
theorem xshift_sound (r : RH L h w U) {op : BinOp} {t : TypeId} {k k' : IntKind} {a b : Int} (hop : op = .shl ∨ op = .shr) (hx : xshift m op k a b ds fun v ds => K v h ds) :
    SemOK P (binOp op t (.int k a) (.int k' b)) L h w U K := by
  obtain ⟨h0, hx⟩ := chk_of hx
  have h0 := not_ltI h0
  rcases hop with rfl | rfl
  · obtain ⟨ds', hk⟩ := ari_of hx
    exact .same r hk (by simp only [binOp, Op.shift, if_neg h0, pow_int]; rfl) (.int _ _)
  · exact .same r hx (by simp only [binOp, Op.shift, if_neg h0, pow_int]; rfl) (.int _ _)
theorem ba_beq {s t : ByteArray} {n v n' v' : Nat} (hs : strOf s = .str n v) (ht : strOf t = .str n' v') :
    (s.toList == t.toList) = Bool.and (Nat.beq n n') (Nat.beq v v') := by
  obtain ⟨rfl, _, rfl⟩ := strOf_str hs
  obtain ⟨rfl, _, rfl⟩ := strOf_str ht
  rw [Bool.eq_iff_iff]
  show _ ↔ (Nat.beq _ _ && Nat.beq _ _) = true
  rw [Bool.and_eq_true, natBeq_iff, natBeq_iff, beq_iff_eq, ByteArray.toList_eq, ByteArray.toList_eq]
  exact ⟨fun e => ⟨by have := congrArg List.length e; simpa using this, by rw [e]⟩, fun ⟨a, b⟩ => by rw [strOf_inj a b]⟩
theorem xstr_sound (r : RH L h w U) {op : BinOp} {t : TypeId} {s s' : ByteArray} {n v n' v' : Nat} (hs : strOf s = .str n v) (hs' : strOf s' = .str n' v')
    (hx : xstr m op n v n' v' ds fun v ds => K v h ds) : SemOK P (binOp op t (.string s) (.string s')) L h w U K := by
  have hb := ba_beq hs hs'
  unfold xstr at hx
  cases op <;> simp only at hx <;> first
    | exact hx.elim
    | skip
  case add =>
    obtain ⟨h0, hk⟩ := chk_of hx
    have h0 := Nat.le_of_ble_eq_true h0
    obtain ⟨e1, e2, e3⟩ := strOf_str hs
    obtain ⟨f1, f2, f3⟩ := strOf_str hs'
    have h0' : ¬ (((s.size + s'.size : Nat) : Int) > IntKind.i64.max) := by
      rw [IntKind.max_i64, e1, f1]
      have h0 : n + n' ≤ 9223372036854775807 := h0
      omega
    refine .same r hk (v' := .string (s ++ s')) ?_ (.str _ _ _ ?_)
    · show (Op.stringOp .add s s').run P w = _
      simp only [Op.stringOp]
      rw [if_neg h0']; rfl
    · have hd : (s ++ s').data.toList = s.data.toList ++ s'.data.toList := by simp
      rw [strOf_eq, hd, ← catV_eq, e2, e3, f3, ByteArray.size_append, e1, f1]; rfl
  case eql => obtain ⟨ds', hk⟩ := dcd_of hx; exact .same r hk (by show (Op.stringOp .eql s s').run P w = _; simp only [Op.stringOp, hb]; rfl) (.bool _)
  case neq => obtain ⟨ds', hk⟩ := dcd_of hx; exact .same r hk (by show (Op.stringOp .neq s s').run P w = _; simp only [Op.stringOp, hb]; rfl) (.bool _)
end
end
end Go.X
/- The operations of the abstract machine on memory, structs, slices. -/
set_option autoImplicit false
namespace Go.X
noncomputable section

/-! Types -/
/-- how a type's values lie: none: no such type; some none: one cell; some (some n): a struct or array of n cells -/
def shapeT (P : Program) (t : TypeId) : Option (Option Nat) :=
  match P.underlying t with
  | some (.struct _) => some (some (P.cellsOf t))
  | some (.array _ _) => some (some (P.cellsOf t))
  | some _ => some none
  | none => none
def sizeT (P : Program) (t : TypeId) : Option Nat := (P.info? t).map (·.size)
def zcells (P : Program) (t : TypeId) : Option (List AV) := (P.info? t).bind fun i => i.zero.map fun z => lmap ofV0 z.cells.toList

section
variable {P : Program} {t : TypeId} {w : World}
theorem run_sizeT {n : Nat} (h : sizeT P t = some n) : (sizeOf t).run P w = .ok n w := by
  unfold sizeT at h
  cases hi : P.info? t with
  | none => simp [hi] at h
  | some i => simp [hi] at h; subst h; simp [sizeOf, typeInfo, hi]
theorem info_of_underlying {d : TypeDesc} (h : P.underlying t = some d) : ∃ i, P.info? t = some i := by
  unfold Program.underlying at h
  cases hi : P.info? t with
  | none => simp [hi] at h
  | some i => exact ⟨i, rfl⟩
theorem run_isAgg {s : Option Nat} (h : shapeT P t = some s) : (isAgg t).run P w = .ok s.isSome w ∧ ∀ n, s = some n → (sizeOf t).run P w = .ok n w := by
  unfold shapeT at h
  cases hu : P.underlying t with
  | none => simp [hu] at h
  | some d =>
    obtain ⟨i, hi⟩ := info_of_underlying hu
    have hc : P.cellsOf t = i.size := by simp [Program.cellsOf, hi]
    have hs : (sizeOf t).run P w = .ok i.size w := by simp [sizeOf, typeInfo, hi]
    cases d <;> simp [hu] at h <;> subst h <;> simp [isAgg, run_underlying hu, hs, hc]
theorem run_zcells {zs : List AV} (h : zcells P t = some zs) : ∃ z, (zeroValue t).run P w = .ok z w ∧ ∀ L, RVs L zs z.cells.toList := by
  unfold zcells at h
  cases hi : P.info? t with
  | none => simp [hi] at h
  | some i =>
    cases hz : i.zero with
    | none => simp [hi, hz] at h
    | some z =>
      simp [hi, hz] at h
      subst h
      refine ⟨z, by simp [zeroValue, typeInfo, hi, hz], fun L => ?_⟩
      rw [lmap_eq]; exact rvs_ofV0 L _
end

theorem cell_row {w : World} {B : Nat} {c : Array Value} {e : TypeId} {fz : Nat × Nat} (h : w.heap[B]? = some (.cells c e fz)) (o : Nat) : w.cell? ⟨B, o, none⟩ = c[o]? := by
  simp [World.cell?, h]

/-! Load, store, new variables -/
def cellOf (h : H) (i o : Nat) : Option AV := match h.b.get i with
  | some (.row cells _ _ _) => lget cells o
  | _ => none
/-- a cell holds what was told -/
def cellIs (h : H) (i o : Nat) (c : CV) : Prop := match c with
  | .sc n => cellOf h i o = some (.int .i64 n)
  | .row j n _ => ∃ cap ex, n ≤ cap ∧ cellOf h i o = some (.slc j 0 n cap ex 1)
def cellsAre (h : H) (i : Nat) (g : Nat → CV) (n o : Nat) : Prop := Nat.rec (motive := fun _ => Nat → Prop) (fun _ => True) (fun _ ih o => cellIs h i o (g o) ∧ ih (Nat.succ o)) n o
theorem cellsAre_succ (h : H) (i : Nat) (g : Nat → CV) (n o : Nat) : cellsAre h i g (n + 1) o = (cellIs h i o (g o) ∧ cellsAre h i g n (o + 1)) := rfl
theorem cellOf_row {h : H} {i o : Nat} {v : AV} (hc : cellOf h i o = some v) : ∃ cells e wr ps, h.b.get i = some (.row cells e wr ps) ∧ cells[o]? = some v := by
  unfold cellOf at hc
  split at hc
  · rename_i cells e wr ps hi
    rw [lget_eq] at hc
    exact ⟨cells, e, wr, ps, hi, hc⟩
  · cases hc
theorem cellIs_row {h : H} {i o : Nat} {c : CV} (hc : cellIs h i o c) : ∃ cells e wr ps a, h.b.get i = some (.row cells e wr ps) ∧ cells[o]? = some a ∧ ∀ (L : LM) (v : Value), RV L a v → RV L c.av v := by
  cases c with
  | sc n =>
    obtain ⟨cells, e, wr, ps, h1, h2⟩ := cellOf_row (by exact hc)
    exact ⟨cells, e, wr, ps, _, h1, h2, fun L v hv => hv⟩
  | row j n g =>
    obtain ⟨cap, ex, _, hc⟩ := hc
    obtain ⟨cells, e, wr, ps, h1, h2⟩ := cellOf_row hc
    exact ⟨cells, e, wr, ps, _, h1, h2, fun L v hv => rv_vs hv⟩
def xload (m : Bool) (P : Program) (t : TypeId) (x : AV) (h : H) (ds : List Bool) (K : KV) : Prop :=
  match x with
  | .ptr i o => match h.b.get i with
    | some (.row cells _ _ _) => match shapeT P t with
      | some none => match lget cells o with
        | some v => K v h ds
        | none => False
      | some (some n) => chk m (Nat.beq (llen (ltake (ldrop cells o) n)) n) (K (.agg (ltake (ldrop cells o) n)) h ds)
      | none => False
    | some (.bts n v _) => match shapeT P t with
      | some none => chk m (Nat.ble (Nat.succ o) n) (K (.int .u8 (Int.ofNat (byteAt v o))) h ds)
      | _ => False
    | some (.pur f n _) => match shapeT P t with
      | some none => match P.underlying t with
        | some (.int k) => chk m (Bool.and (Nat.ble (Nat.succ o) n) (pvIsI k (f o))) (K (.int k (pvI (f o))) h ds)
        | some .string => chk m (Bool.and (Nat.ble (Nat.succ o) n) (pvIsS (f o))) (K (.str (pvL (f o)) (pvV (f o))) h ds)
        | some .bool => chk m (Bool.and (Nat.ble (Nat.succ o) n) (pvIsB (f o))) (dcd m (pvB (f o)) ds fun b ds => K (.bool b) h ds)
        | _ => False
      | some (some s) => chk m (Nat.ble (Nat.add o s) n) (K (.agg (pvCells f o s)) h ds)
      | none => False
    | _ => False
  | .vp i o g => match shapeT P t with
    | some none => cellIs h i o (g o) ∧ K (g o).av h ds
    | _ => False
  | _ => False
def xstore (m : Bool) (P : Program) (t : TypeId) (x v : AV) (h : H) (ds : List Bool) (K : KV) : Prop :=
  match x with
  | .ptr i o => match v.cells with
    | some cs => match sizeT P t with
      | some n => chk m (Nat.beq (llen cs) n) (hwr m h i o cs fun h => K (.tup []) h ds)
      | none => False
    | none => False
  | _ => False
def xalloc (P : Program) (t : TypeId) (h : H) (ds : List Bool) (K : KV) : Prop :=
  match zcells P t with
  | some zs => K (.ptr h.next 0) (hrow h zs t) ds
  | none => False
def xbox (t : TypeId) (v : AV) (h : H) (ds : List Bool) (K : KV) : Prop :=
  match v.cells with
  | some cs => K (.ptr h.next 0) (hrow h cs t) ds
  | none => False

section
variable {P : Program} {L : LM} {h : H} {w : World} {U : Nat} {m : Bool} {ds : List Bool} {K : KV}

/-- the cells of a row -/
theorem row_seg (r : RH L h w U) {i : Nat} {p : Loc} {cells : List AV} {e : TypeId} {wr : Bool} {ps : List Nat} (hi : h.b.get i = some (.row cells e wr ps)) (hp : L i = some p)
    (o n : Nat) (hn : ((cells.drop o).take n).length = n) : ∃ vs, RVs L ((cells.drop o).take n) vs ∧ vs.length = n ∧ ∀ j v, vs[j]? = some v → w.cell? ((⟨p.B, p.O + o, none⟩ : Addr).add j) = some v := by
  have hm := r.mem _ _ _ hi hp
  obtain ⟨c, fz, h1, h2, h3, h4⟩ := hm
  have hlen : ((c.toList.drop (p.O + o)).take n).length = n := by
    rcases Nat.eq_zero_or_pos n with h0 | h0
    · subst h0; simp
    · have hl : o + n ≤ cells.length := by simp at hn; omega
      obtain ⟨v', a, _⟩ := h4 (o + n - 1) _ (List.getElem?_eq_getElem (by omega))
      have := (Array.getElem?_eq_some_iff.1 a).1
      simp; omega
  refine ⟨(c.toList.drop (p.O + o)).take n, RVs.of_get (hn.trans hlen.symm) fun k a ha => ?_, hlen, fun j v hv => ?_⟩
  · have hk : k < n := by have := (List.getElem?_eq_some_iff.1 ha).1; omega
    rw [List.getElem?_take, if_pos hk, List.getElem?_drop] at ha
    obtain ⟨v', a1, a2⟩ := h4 _ _ ha
    refine ⟨v', ?_, a2⟩
    rw [List.getElem?_take, if_pos hk, List.getElem?_drop, Nat.add_assoc]; simpa using a1
  · rw [add_at, cell_row h1]
    have hj : j < n := by have := (List.getElem?_eq_some_iff.1 hv).1; omega
    rw [List.getElem?_take, if_pos hj, List.getElem?_drop] at hv
    simpa using hv
theorem ro_mk {P : Program} {s : Sem Value} {L : LM} {h : H} {w : World} {K : KV} {v : AV} {ds : List Bool} {v' : Value} (hk : K v h ds) (hr : s.run P w = .ok v' w) (hv : RV L v v') :
    ∃ v ds' v', K v h ds' ∧ s.run P w = .ok v' w ∧ RV L v v' := ⟨_, _, _, hk, hr, hv⟩
theorem byteAt_div (v o : Nat) : byteAt v o = v / 256 ^ o % 256 := by show Nat.shiftRight v (Nat.mul 8 o) % 256 = _; rw [shr8]
theorem xload_ro (r : RH L h w U) {t : TypeId} {x : AV} {x' : Value} (hx : RV L x x') (hk : xload m P t x h ds K) : ∃ v ds' v', K v h ds' ∧ (Instr.loadAt t x').run P w = .ok v' w ∧ RV L v v' := by
  unfold xload at hk
  split at hk <;> try exact hk.elim
  case h_2 =>
    cases hx with
    | vp i o g p hp =>
      split at hk <;> try exact hk.elim
      rename_i hs
      obtain ⟨hc, hk⟩ := hk
      obtain ⟨cells, e, wr, ps, a, hi, hv, tr⟩ := cellIs_row hc
      obtain ⟨c, fz, h1, h2, h3, h4⟩ := r.mem _ _ _ hi hp
      obtain ⟨v', b1, b2⟩ := h4 _ _ hv
      obtain ⟨g1, _⟩ := run_isAgg (w := w) hs
      exact ro_mk hk (by simp [Instr.loadAt, Instr.sureAddr, loadVar, g1, cell_row h1, b1]) (tr _ _ b2)
  cases hx with
  | ptr i o p hp =>
    split at hk <;> try exact hk.elim
    rename_i cells e wr ps hi
    split at hk <;> try exact hk.elim
    · rename_i hs
      split at hk <;> try exact hk.elim
      rename_i v hv
      rw [lget_eq] at hv
      have hm := r.mem _ _ _ hi hp
      obtain ⟨c, fz, h1, h2, h3, h4⟩ := hm
      obtain ⟨v', a, b⟩ := h4 _ _ hv
      obtain ⟨g1, _⟩ := run_isAgg (w := w) hs
      exact ro_mk hk (by simp [Instr.loadAt, Instr.sureAddr, loadVar, g1, cell_row h1, a]) b
    · rename_i n hs
      obtain ⟨hn, hk⟩ := chk_of hk
      have hn := Nat.eq_of_beq_eq_true hn
      rw [llen_eq] at hn
      rw [ltake_eq, ldrop_eq] at hn hk
      obtain ⟨vs, a, b, d⟩ := row_seg r hi hp _ n hn
      obtain ⟨g1, g2⟩ := run_isAgg (w := w) hs
      have := run_loadCells_list (P := P) w _ vs d
      rw [b] at this
      exact ro_mk hk (v' := .agg vs.toArray) (by simp [Instr.loadAt, Instr.sureAddr, loadVar, g1, g2 n rfl, this]) (.agg _ _ (by simpa using a))
    · rename_i n v e hi
      split at hk <;> try exact hk.elim
      rename_i hs
      obtain ⟨hn, hk⟩ := chk_of hk
      have hn := Nat.le_of_ble_eq_true hn
      have hm := r.mem _ _ _ hi hp
      obtain ⟨c, fz, h1, h2, h4⟩ := hm
      obtain ⟨v', a, b⟩ := h4 _ _ (bytesOf_get n v _ hn)
      obtain ⟨g1, _⟩ := run_isAgg (w := w) hs
      rw [byteAt_div] at hk
      exact ro_mk hk (by simp [Instr.loadAt, Instr.sureAddr, loadVar, g1, cell_row h1, a]) b
    · rename_i i o _ f n e hi
      have hm := r.mem _ _ _ hi hp
      obtain ⟨c, fz, h1, h2, h4⟩ := hm
      have tt : ∀ {a b : Bool}, Bool.and a b = true → a = true ∧ b = true := fun {a b} h => by cases a <;> cases b <;> first | exact ⟨rfl, rfl⟩ | cases h
      split at hk <;> try exact hk.elim
      · rename_i hs
        obtain ⟨g1, _⟩ := run_isAgg (w := w) hs
        split at hk <;> try exact hk.elim
        · obtain ⟨hn, hk⟩ := chk_of hk
          obtain ⟨hn, hi⟩ := tt hn
          obtain ⟨v', a, b⟩ := h4 _ (Nat.le_of_ble_eq_true hn)
          rw [← pv_int hi] at hk
          exact ro_mk hk (by simp [Instr.loadAt, Instr.sureAddr, loadVar, g1, cell_row h1, a]) b
        · obtain ⟨hn, hk⟩ := chk_of hk
          obtain ⟨hn, hi⟩ := tt hn
          obtain ⟨v', a, b⟩ := h4 _ (Nat.le_of_ble_eq_true hn)
          rw [← pv_str hi] at hk
          exact ro_mk hk (by simp [Instr.loadAt, Instr.sureAddr, loadVar, g1, cell_row h1, a]) b
        · obtain ⟨hn, hk⟩ := chk_of hk
          obtain ⟨hn, hi⟩ := tt hn
          obtain ⟨v', a, b⟩ := h4 _ (Nat.le_of_ble_eq_true hn)
          obtain ⟨ds', hk⟩ := dcd_of hk
          rw [← pv_bool hi] at hk
          exact ro_mk hk (by simp [Instr.loadAt, Instr.sureAddr, loadVar, g1, cell_row h1, a]) b
      · rename_i s hs
        obtain ⟨hn, hk⟩ := chk_of hk
        have hn : o + s ≤ n := Nat.le_of_ble_eq_true hn
        obtain ⟨g1, g2⟩ := run_isAgg (w := w) hs
        have hlen : ((c.toList.drop (p.O + o)).take s).length = s := by
          rcases Nat.eq_zero_or_pos s with h0 | h0
          · subst h0; simp
          · obtain ⟨v', a, _⟩ := h4 (o + s - 1) (by omega)
            have := (Array.getElem?_eq_some_iff.1 a).1
            simp; omega
        have d : ∀ j v, ((c.toList.drop (p.O + o)).take s)[j]? = some v → w.cell? ((⟨p.B, p.O + o, none⟩ : Addr).add j) = some v := by
          intro j v hv
          rw [add_at, cell_row h1]
          have hj : j < s := by have := (List.getElem?_eq_some_iff.1 hv).1; omega
          rw [List.getElem?_take, if_pos hj, List.getElem?_drop] at hv
          simpa using hv
        have this := run_loadCells_list (P := P) w _ _ d
        rw [hlen] at this
        refine ro_mk hk (v' := .agg ((c.toList.drop (p.O + o)).take s).toArray) (by simp [Instr.loadAt, Instr.sureAddr, loadVar, g1, g2 s rfl, this]) (.agg _ _ ?_)
        refine RVs.of_get (by rw [pvCells_length]; simpa using hlen.symm) fun k a ha => ?_
        have hk : k < s := by have := (List.getElem?_eq_some_iff.1 ha).1; rwa [pvCells_length] at this
        rw [pvCells_get f s o k hk] at ha
        cases ha
        obtain ⟨v', a1, a2⟩ := h4 (o + k) (by omega)
        refine ⟨v', ?_, a2⟩
        simp only [List.getElem?_take, if_pos hk, List.getElem?_drop, Nat.add_assoc]; simpa using a1
theorem xload_sound (r : RH L h w U) {t : TypeId} {x : AV} {x' : Value} (hx : RV L x x') (hk : xload m P t x h ds K) : SemOK P (Instr.loadAt t x') L h w U K :=
  let ⟨_, _, _, a, b, c⟩ := xload_ro r hx hk
  .same r a b c
theorem xstore_sound (r : RH L h w U) {t : TypeId} {x v : AV} {x' v' : Value} (hx : RV L x x') (hv : RV L v v') (hk : xstore m P t x v h ds K) :
    ∃ h' w', K (.tup []) h' ds ∧ (Instr.storeAt t x' v').run P w = .ok () w' ∧ RH L h' w' U ∧ Step L L h h' w w' := by
  unfold xstore at hk
  split at hk <;> try exact hk.elim
  cases hx with
  | ptr i o p hp =>
    split at hk <;> try exact hk.elim
    rename_i cs hcs
    split at hk <;> try exact hk.elim
    rename_i n hn
    obtain ⟨hl, hk⟩ := chk_of hk
    have hl := Nat.eq_of_beq_eq_true hl
    rw [llen_eq] at hl
    have hc := hv.cells hcs
    obtain ⟨h', w', a, b, c, d⟩ := hwr_sound (P := P) r hk hp hc
    have hsz : v'.cells.size = n := by rw [← hl, hc.length]; simp
    exact ⟨h', w', a, by simp [Instr.storeAt, Instr.sureAddr, storeVar, run_sizeT hn, hsz, b], c, d⟩
theorem xalloc_sound (r : RH L h w U) (hU : ∀ v h' ds', K v h' ds' → h'.next ≤ U) {t : TypeId} (hk : xalloc P t h ds K) : SemOK P (Instr.alloc t true (.tuple #[])) L h w U K := by
  unfold xalloc at hk
  split at hk <;> try exact hk.elim
  rename_i zs hz
  obtain ⟨z, g1, g2⟩ := run_zcells (w := w) hz
  obtain ⟨L', e1, e2, e3⟩ := rh_row r (hU _ _ _ hk) zs t z.cells (hc_of_rvs (g2 L))
  exact ⟨_, _, ds, L', _, _, hk, by simp [Instr.alloc, g1, newVar, newRow], .ptr _ 0 _ e1, e2, e3⟩
theorem xbox_sound (r : RH L h w U) (hU : ∀ v h' ds', K v h' ds' → h'.next ≤ U) {t : TypeId} {v : AV} {v' : Value} (hv : RV L v v') (hk : xbox t v h ds K) : SemOK P (Instr.box t v') L h w U K := by
  unfold xbox at hk
  split at hk <;> try exact hk.elim
  rename_i cs hcs
  obtain ⟨L', e1, e2, e3⟩ := rh_row r (hU _ _ _ hk) cs t v'.cells (hc_of_rvs (hv.cells hcs))
  exact ⟨_, _, ds, L', _, _, hk, by simp [Instr.box, newVar, newRow], .ptr _ 0 _ e1, e2, e3⟩
end

/-! Structs -/
def xpart (m : Bool) (P : Program) (t : TypeId) (cs : List AV) (off : Nat) (K : AV → Prop) : Prop :=
  match shapeT P t with
  | some none => match lget cs off with
    | some v => K v
    | none => False
  | some (some n) => chk m (Nat.beq (llen (ltake (ldrop cs off) n)) n) (K (.agg (ltake (ldrop cs off) n)))
  | none => False
theorem extract_list {α : Type} (a : Array α) (k n : Nat) : (a.extract k (k + n)).toList = (a.toList.drop k).take n := by
  rw [Array.toList_extract, List.extract_eq_take_drop, Nat.add_sub_cancel_left]
theorem xpart_sound {m : Bool} {P : Program} {L : LM} {w : World} {t : TypeId} {cs : List AV} {off : Nat} {K : AV → Prop} {vs : Array Value} (h : RVs L cs vs.toList) (hk : xpart m P t cs off K) :
    ∃ v v', K v ∧ (part t vs off).run P w = .ok v' w ∧ RV L v v' := by
  unfold xpart at hk
  split at hk <;> try exact hk.elim
  · rename_i hs
    split at hk <;> try exact hk.elim
    rename_i v hv
    rw [lget_eq] at hv
    obtain ⟨v', a, b⟩ := h.get hv
    obtain ⟨g1, _⟩ := run_isAgg (w := w) hs
    exact ⟨v, v', hk, by simp at a; simp [part, g1, a], b⟩
  · rename_i n hs
    obtain ⟨_, hk⟩ := chk_of hk
    rw [ltake_eq, ldrop_eq] at hk
    obtain ⟨g1, g2⟩ := run_isAgg (w := w) hs
    exact ⟨_, .agg (vs.extract off (off + n)), hk, by simp [part, g1, g2 n rfl], .agg _ _ (by rw [extract_list]; exact (h.drop off).take n)⟩
def fieldT (P : Program) (t : TypeId) (f : Nat) : Option Field := match P.underlying t with
  | some (.struct fs) => fs[f]?
  | _ => none
def xfield (m : Bool) (P : Program) (t : TypeId) (x : AV) (f : Nat) (h : H) (ds : List Bool) (K : KV) : Prop :=
  match x with
  | .agg cs => match fieldT P t f with
    | some fd => xpart m P fd.type cs fd.offset fun v => K v h ds
    | none => False
  | _ => False
def xfaddr (P : Program) (t : TypeId) (x : AV) (f : Nat) (h : H) (ds : List Bool) (K : KV) : Prop :=
  match x with
  | .ptr i o => match fieldT P t f with
    | some fd => match sizeT P fd.type with
      | some n => Bool.rec (K (.ptr i (Nat.add o fd.offset)) h ds) False (Nat.beq n 0)
      | none => False
    | none => False
  | _ => False
section
variable {P : Program} {L : LM} {h : H} {w : World} {U : Nat} {m : Bool} {ds : List Bool} {K : KV}
theorem fieldT_some {t : TypeId} {f : Nat} {fd : Field} (hf : fieldT P t f = some fd) : ∃ fs, P.underlying t = some (.struct fs) ∧ fs[f]? = some fd := by
  unfold fieldT at hf
  split at hf
  · rename_i fs hu; exact ⟨fs, hu, hf⟩
  · cases hf
theorem xfield_sound (r : RH L h w U) {t : TypeId} {x : AV} {x' : Value} {f : Nat} (hx : RV L x x') (hk : xfield m P t x f h ds K) : SemOK P (Instr.field t x' f) L h w U K := by
  unfold xfield at hk
  split at hk <;> try exact hk.elim
  cases hx with
  | agg cs xs hxs =>
    split at hk <;> try exact hk.elim
    rename_i fd hf
    obtain ⟨fs, hu, hfs⟩ := fieldT_some hf
    obtain ⟨v, v', a, b, c⟩ := xpart_sound (w := w) hxs hk
    exact .same r a (by simp [Instr.field, run_underlying hu, hfs, asAgg, b]) c
theorem xfaddr_sound (r : RH L h w U) {t : TypeId} {x : AV} {x' : Value} {f : Nat} (hx : RV L x x') (hk : xfaddr P t x f h ds K) : SemOK P (Instr.fieldAt t x' f) L h w U K := by
  unfold xfaddr at hk
  split at hk <;> try exact hk.elim
  cases hx with
  | ptr i o p hp =>
    split at hk <;> try exact hk.elim
    rename_i fd hf
    split at hk <;> try exact hk.elim
    rename_i n hn
    obtain ⟨fs, hu, hfs⟩ := fieldT_some hf
    cases h0 : Nat.beq n 0 with
    | true => rw [h0] at hk; exact hk.elim
    | false =>
      rw [h0] at hk
      have h0' : ¬ n = 0 := fun e => by subst e; cases h0
      refine .same r hk ?_ (.ptr _ _ p hp)
      simp [Instr.fieldAt, run_underlying hu, hfs, Instr.sureAddr, fieldPlace, run_sizeT hn, h0', add_at, Nat.add_assoc]
end

/-! Building -/
def xfill (place : Nat → Option (Nat × Nat)) (cells : List AV) (parts : List (Nat × AV)) : Option (List AV) :=
  List.rec (motive := fun _ => List AV → Option (List AV)) (fun cells => some cells) (fun p _ ih cells =>
    match place p.1 with
    | some (off, size) => match p.2.cells with
      | some cs => Bool.rec none (ih (lput cells cs off)) (Bool.and (Nat.beq (llen cs) size) (Nat.ble (Nat.add off (llen cs)) (llen cells)))
      | none => none
    | none => none) parts cells
def RPs (L : LM) (a : List (Nat × AV)) (b : List (Nat × Value)) : Prop := List.map Prod.fst a = List.map Prod.fst b ∧ RVs L (List.map Prod.snd a) (List.map Prod.snd b)
theorem foldl_put (vs : List Value) : ∀ (off j : Nat) (c : Array Value), off + j + vs.length ≤ c.size →
    ((vs.zipIdx j).foldl (fun cs x => cs.setIfInBounds (off + x.2) x.1) c).toList = c.toList.take (off + j) ++ (vs ++ c.toList.drop (off + j + vs.length)) := by
  induction vs with
  | nil => intro off j c hl; simp
  | cons v vs ih =>
    intro off j c hl
    simp only [List.length_cons] at hl
    rw [List.zipIdx_cons, List.foldl_cons, ih off (j + 1) _ (by simp; omega), Array.toList_setIfInBounds]
    apply List.ext_getElem?
    intro n
    have e1 := list_splice (c.toList.set (off + j) v) vs (off + (j + 1)) (by simp; omega) n
    have e2 := list_splice c.toList (v :: vs) (off + j) (by simp; omega) n
    rw [e1]
    simp only [List.length_cons] at e2
    rw [List.length_cons, e2]
    simp only [List.getElem?_set]
    by_cases h1 : n < off + j
    · rw [if_pos (by omega), if_pos h1, if_neg (by omega)]
    · by_cases h2 : n = off + j
      · subst h2; rw [if_pos (by omega), if_pos rfl, if_pos (by simp; omega), if_neg h1, if_pos (by omega)]; simp
      · rw [if_neg (by omega), if_neg h1]
        by_cases h3 : n < off + (j + 1) + vs.length
        · rw [if_pos h3, if_pos (by omega)]
          rw [show n - (off + j) = (n - (off + (j + 1))) + 1 by omega]; simp
        · rw [if_neg h3, if_neg (by omega), if_neg (by omega)]
theorem RVs.put {L : LM} {cs xs : List AV} {c vs : List Value} (h : RVs L cs c) (hv : RVs L xs vs) (k : Nat) : RVs L (cs.take k ++ (xs ++ cs.drop (k + xs.length))) (c.take k ++ (vs ++ c.drop (k + vs.length))) := by
  have := hv.length
  rw [← this]
  exact (h.take k).append (hv.append (h.drop _))
theorem xfill_sound {L : LM} (place : Nat → Option (Nat × Nat)) : ∀ (parts : List (Nat × AV)) (parts' : List (Nat × Value)) (cells : List AV) (c : Array Value) (out : List AV),
    RPs L parts parts' → RVs L cells c.toList → xfill place cells parts = some out → ∃ out', Instr.fill place c parts' = some out' ∧ RVs L out out'.toList
  | [], parts', cells, c, out, hp, hc, ho => by
    obtain ⟨h1, h2⟩ := hp
    cases parts' with
    | nil => cases ho; exact ⟨c, rfl, hc⟩
    | cons => cases h2
  | (i, a) :: parts, parts', cells, c, out, hp, hc, ho => by
    obtain ⟨h1, h2⟩ := hp
    cases parts' with
    | nil => cases h2
    | cons q parts' =>
      obtain ⟨j, v⟩ := q
      simp at h1
      obtain ⟨rfl, h1⟩ := h1
      cases h2 with
      | cons _ _ _ _ ha hs =>
        have ho : (match place i with
          | some (off, size) => match a.cells with
            | some cs => Bool.rec none (xfill place (lput cells cs off) parts) (Bool.and (Nat.beq (llen cs) size) (Nat.ble (Nat.add off (llen cs)) (llen cells)))
            | none => none
          | none => none) = some out := ho
        split at ho <;> try cases ho
        rename_i off size hpl
        split at ho <;> try cases ho
        rename_i cs hcs
        have hcv := ha.cells hcs
        cases hb : Bool.and (Nat.beq (llen cs) size) (Nat.ble (Nat.add off (llen cs)) (llen cells)) with
        | false => rw [hb] at ho; cases ho
        | true =>
          rw [hb] at ho
          have hb : (Nat.beq (llen cs) size && Nat.ble (Nat.add off (llen cs)) (llen cells)) = true := hb
          rw [Bool.and_eq_true] at hb
          have h3 := Nat.eq_of_beq_eq_true hb.1
          have h4 := Nat.le_of_ble_eq_true hb.2
          rw [llen_eq] at h3
          rw [llen_eq, llen_eq] at h4
          have h4 : off + cs.length ≤ cells.length := h4
          have hl := hcv.length
          have hl2 := hc.length
          have e1 : v.cells.size = size := by rw [← h3, hl]; simp
          have e2 : ¬ (off + v.cells.size > c.size) := by
            have a1 : v.cells.size = cs.length := by rw [hl]; simp
            have a2 : c.size = cells.length := by rw [hl2]; simp
            omega
          have e3 : ((v.cells.zipIdx.foldl (fun cs x => cs.setIfInBounds (off + x.2) x.1) c)).toList = c.toList.take off ++ (v.cells.toList ++ c.toList.drop (off + v.cells.toList.length)) := by
            rw [← Array.foldl_toList, Array.toList_zipIdx, foldl_put _ off 0 c (by simp; omega)]
            simp
          rw [lput_eq] at ho
          have hnext : RVs L (cells.take off ++ (cs ++ cells.drop (off + cs.length))) (v.cells.zipIdx.foldl (fun cs x => cs.setIfInBounds (off + x.2) x.1) c).toList := by
            rw [e3]; exact hc.put hcv off
          obtain ⟨out', o1, o2⟩ := xfill_sound place parts parts' _ _ out ⟨h1, hs⟩ hnext ho
          refine ⟨out', ?_, o2⟩
          simp only [Instr.fill, hpl]
          rw [if_neg (by simp [e1]; omega)]
          exact o1
end
end Go.X
/- The operations of the abstract machine on slices; building; conversions; equality. -/
set_option autoImplicit false
namespace Go.X
noncomputable section

def inB (n : Int) (len : Nat) : Bool := Int.rec (fun k => Nat.ble (Nat.succ k) len) (fun _ => false) n
theorem inB_eq (n : Int) (len : Nat) : inB n len = decide (0 ≤ n ∧ n < len) := by
  cases n with
  | ofNat m =>
    show Nat.ble (m + 1) len = _
    rw [Bool.eq_iff_iff, Nat.ble_eq, decide_eq_true_iff]; simp; omega
  | negSucc m =>
    show false = _
    rw [Bool.eq_iff_iff, decide_eq_true_iff]; simp
theorem inB_true {n : Int} {len : Nat} (h : inB n len = true) : 0 ≤ n ∧ n < len := by rw [inB_eq] at h; simpa using h

/-! Building -/
def placeOf (P : Program) (t : TypeId) : Option (Nat → Option (Nat × Nat)) :=
  match P.underlying t with
  | some (.struct fields) => (fields.toList.mapM (fun f => (P.info? f.type).map fun i => (f.offset, i.size))).map fun l i => lget l i
  | some (.array _ e) => (P.info? e).map fun ie i => some (Nat.mul i ie.size, ie.size)
  | _ => none
def xbuild (P : Program) (t : TypeId) (parts : List (Nat × AV)) (h : H) (ds : List Bool) (K : KV) : Prop :=
  match zcells P t with
  | some zs => match placeOf P t with
    | some pl => match xfill pl zs parts with
      | some cs => K (.agg cs) h ds
      | none => False
    | none => False
  | none => False
def elemT (P : Program) (t : TypeId) : Option TypeId := match P.underlying t with
  | some (.slice e) => some e
  | _ => none
def xbslice (m : Bool) (P : Program) (t : TypeId) (len : Nat) (parts : List (Nat × AV)) (h : H) (ds : List Bool) (K : KV) : Prop :=
  match elemT P t with
  | some e => match sizeT P e with
    | some sz => match zcells P e with
      | some zs => match xfill (fun i => some (Nat.mul i sz, sz)) (lrep len zs) parts with
        | some cs => chk m (Bool.and (Nat.ble (Nat.mul len sz) 16777216) (Bool.and (Nat.beq (llen zs) sz) (Nat.beq (llen cs) (Nat.mul len sz)))) (K (.slc h.next 0 len len true sz) (hrow h cs e) ds)
        | none => False
      | none => False
    | none => False
  | none => False
section
variable {P : Program} {L : LM} {h : H} {w : World} {U : Nat} {m : Bool} {ds : List Bool} {K : KV}
theorem zcells_some {t : TypeId} {zs : List AV} (hz : zcells P t = some zs) : ∃ i z, P.info? t = some i ∧ i.zero = some z ∧ ∀ L, RVs L zs z.cells.toList := by
  unfold zcells at hz
  cases hi : P.info? t with
  | none => simp [hi] at hz
  | some i =>
    cases hzz : i.zero with
    | none => simp [hi, hzz] at hz
    | some z =>
      simp [hi, hzz] at hz
      subst hz
      exact ⟨i, z, rfl, hzz, fun L => by rw [lmap_eq]; exact rvs_ofV0 L _⟩
theorem sizeT_some {t : TypeId} {n : Nat} (h : sizeT P t = some n) : ∃ i, P.info? t = some i ∧ i.size = n := by
  unfold sizeT at h
  cases hi : P.info? t with
  | none => simp [hi] at h
  | some i => simp [hi] at h; exact ⟨i, rfl, h⟩
theorem elemT_some {t e : TypeId} (h : elemT P t = some e) : P.underlying t = some (.slice e) := by
  unfold elemT at h
  split at h
  · rename_i hu; cases h; exact hu
  · cases h
theorem xbuild_sound (r : RH L h w U) {t : TypeId} {parts : List (Nat × AV)} {parts' : Array (Nat × Value)} (hp : RPs L parts parts'.toList) (hk : xbuild P t parts h ds K) :
    SemOK P (Instr.build t parts') L h w U K := by
  unfold xbuild at hk
  split at hk <;> try exact hk.elim
  rename_i zs hz
  split at hk <;> try exact hk.elim
  rename_i pl hpl
  split at hk <;> try exact hk.elim
  rename_i cs hcs
  obtain ⟨it, z, hi, hzz, hrv⟩ := zcells_some hz
  obtain ⟨out, ho, hr⟩ := xfill_sound pl parts parts'.toList zs z.cells cs hp (hrv L) hcs
  refine .same r hk (v' := .agg out) (run_build w t parts' out ?_) (.agg _ _ hr)
  unfold placeOf at hpl
  unfold Program.built
  rw [hi]
  split at hpl
  · rename_i fields hu
    rw [hu]
    cases hm : fields.toList.mapM (fun f => (P.info? f.type).map fun i => (f.offset, i.size)) with
    | none => rw [hm] at hpl; cases hpl
    | some l =>
      rw [hm] at hpl; cases hpl
      simp only [hzz, hm]
      rw [← ho]; congr 1; funext i; show _ = lget l i; rw [lget_eq]; simp
  · rename_i n e hu
    rw [hu]
    cases hie : P.info? e with
    | none => rw [hie] at hpl; cases hpl
    | some ie =>
      rw [hie] at hpl; cases hpl
      simp only [hzz, hie]
      rw [← ho]; rfl
  · cases hpl
theorem lrep_succ {α : Type} (n : Nat) (l : List α) : lrep (n + 1) l = l ++ lrep n l := by
  show lapp l (lrep n l) = _
  rw [lapp_eq]
theorem lrep_length {α : Type} (n : Nat) (l : List α) : (lrep n l).length = n * l.length := by
  induction n with
  | zero => simp; rfl
  | succ n ih => rw [lrep_succ, List.length_append, ih, Nat.succ_mul]; omega
theorem lrep_get {α : Type} (n : Nat) (l : List α) : ∀ k, k < n * l.length → (lrep n l)[k]? = l[k % l.length]? := by
  induction n with
  | zero => intro k hk; omega
  | succ n ih =>
    intro k hk
    rw [Nat.succ_mul] at hk
    rw [lrep_succ]
    by_cases h1 : k < l.length
    · rw [List.getElem?_append_left h1, Nat.mod_eq_of_lt h1]
    · rw [List.getElem?_append_right (by omega), ih _ (by omega)]
      congr 1
      rw [Nat.mod_eq_sub_mod (by omega : k ≥ l.length)]
theorem rvs_rep {zs : List AV} {z : Array Value} (hz : RVs L zs z.toList) (n : Nat) :
    RVs L (lrep n zs) ((Array.range (n * z.size)).map (fun i => z[i % z.size]!)).toList := by
  have hl := hz.length
  have hl' : zs.length = z.size := by rw [hl]; simp
  refine RVs.of_get (by rw [lrep_length]; simp [hl']) fun k a hk => ?_
  have hk' : k < n * zs.length := by have := (List.getElem?_eq_some_iff.1 hk).1; rwa [lrep_length] at this
  rw [lrep_get _ _ _ hk', hl'] at hk
  obtain ⟨v, e1, e2⟩ := hz.get hk
  refine ⟨v, ?_, e2⟩
  have hz0 : 0 < z.size := by
    rcases Nat.eq_zero_or_pos z.size with e | e
    · rw [hl', e] at hk'; omega
    · exact e
  have hm : k % z.size < z.size := Nat.mod_lt _ hz0
  simp [hl' ▸ hk']
  simp at e1
  rw [Array.getElem?_eq_getElem hm] at e1
  simp [hm]
  exact Option.some.inj e1
theorem xbslice_sound (r : RH L h w U) (hU : ∀ v h' ds', K v h' ds' → h'.next ≤ U) {t : TypeId} {len : Nat} {parts : List (Nat × AV)} {parts' : Array (Nat × Value)} (hp : RPs L parts parts'.toList) (hk : xbslice m P t len parts h ds K) :
    SemOK P (Instr.buildSlice t len parts') L h w U K := by
  unfold xbslice at hk
  split at hk <;> try exact hk.elim
  rename_i e he
  split at hk <;> try exact hk.elim
  rename_i sz hsz
  split at hk <;> try exact hk.elim
  rename_i zs hz
  split at hk <;> try exact hk.elim
  rename_i cs hcs
  obtain ⟨hb, hk⟩ := chk_of hk
  have hb : (Nat.ble (Nat.mul len sz) 16777216 && (Nat.beq (llen zs) sz && Nat.beq (llen cs) (Nat.mul len sz))) = true := hb
  rw [Bool.and_eq_true, Bool.and_eq_true] at hb
  have hb1 : len * sz ≤ 16777216 := Nat.le_of_ble_eq_true hb.1
  have hb2 := Nat.eq_of_beq_eq_true hb.2.1
  have hb3 := Nat.eq_of_beq_eq_true hb.2.2
  rw [llen_eq] at hb2 hb3
  have hb3 : cs.length = len * sz := hb3
  obtain ⟨it, z, hi, hzz, hrv⟩ := zcells_some hz
  have hzl : z.cells.size = sz := by have := (hrv L).length; simp at this; omega
  have hrep := rvs_rep (hrv L) len
  rw [hzl] at hrep
  obtain ⟨out, ho, hr⟩ := xfill_sound (fun i => some (Nat.mul i sz, sz)) parts parts'.toList _ _ cs hp hrep hcs
  have ho : Instr.fill (fun i => some (i * sz, sz)) (Array.map (fun i => z.cells[i % sz]!) (Array.range (len * sz))) parts'.toList = some out := ho
  obtain ⟨L', e1, e2, e3⟩ := rh_row r (hU _ _ _ hk) cs e out (hc_of_rvs hr)
  have hol : out.size = len * sz := by have := hr.length; simp at this; omega
  refine ⟨_, _, ds, L', _, _, hk, ?_, .slc _ 0 len len true sz _ len e1 (Nat.le_refl _) (Nat.le_refl _) (fun _ => rfl) (by simp [hol]), e2, e3⟩
  have hng : ¬ (len * sz > 2 ^ 24) := by simp; omega
  simp only [Instr.buildSlice, Sem.run_bind, run_underlying (elemT_some he), Result.andThen_ok, run_sizeT hsz, hng, if_false]
  by_cases h0 : len * sz = 0
  · have e0 : (Array.map (fun x => (#[] : Array Value)[x % (#[] : Array Value).size]!) (Array.range (len * sz))) = (Array.map (fun i => z.cells[i % sz]!) (Array.range (len * sz))) := by rw [h0]; simp
    rw [if_pos h0]
    simp only [Sem.run_bind, Sem.run_pure, Result.andThen_ok, e0, ho, newRow, run_newObj]
    rfl
  · rw [if_neg h0]
    simp only [Sem.run_bind, Sem.run_pure, Result.andThen_ok, zeroValue, typeInfo, run_program, hi, hzz, hzl, ho, newRow, run_newObj]
    rfl
end

/-! Indexes -/
def xiaddr (m : Bool) (P : Program) (t : TypeId) (x ix : AV) (h : H) (ds : List Bool) (K : KV) : Prop :=
  match ix with
  | .int _ n => match P.underlying t with
    | some (.slice e) => match x with
      | .slc i o len _ _ _ => match sizeT P e with
        | some z => chk m (inB n len) (K (.ptr i (Nat.add o (Nat.mul n.toNat z))) h ds)
        | none => False
      | .vs i o len g => match sizeT P e with
        | some z => chk m (inB n len) (K (.vp i (Nat.add o (Nat.mul n.toNat z)) g) h ds)
        | none => False
      | _ => False
    | some (.array len e) => match x with
      | .ptr i o => match sizeT P e with
        | some z => chk m (inB n len) (K (.ptr i (Nat.add o (Nat.mul n.toNat z))) h ds)
        | none => False
      | _ => False
    | _ => False
  | _ => False
def xindex (m : Bool) (P : Program) (t : TypeId) (x ix : AV) (h : H) (ds : List Bool) (K : KV) : Prop :=
  match ix with
  | .int _ n => match P.underlying t with
    | some .string => match x with
      | .str l v => chk m (inB n l) (K (.int .u8 (Int.ofNat (byteAt v n.toNat))) h ds)
      | _ => False
    | some (.array len e) => match x with
      | .agg cs => match sizeT P e with
        | some z => chk m (inB n len) (xpart m P e cs (Nat.mul n.toNat z) fun v => K v h ds)
        | none => False
      | _ => False
    | _ => False
  | _ => False
section
variable {P : Program} {L : LM} {h : H} {w : World} {U : Nat} {m : Bool} {ds : List Bool} {K : KV}
theorem xiaddr_sound (r : RH L h w U) {t : TypeId} {x ix : AV} {x' ix' : Value} (hx : RV L x x') (hix : RV L ix ix') (hk : xiaddr m P t x ix h ds K) : SemOK P (Instr.indexAt t x' ix') L h w U K := by
  unfold xiaddr at hk
  split at hk <;> try exact hk.elim
  cases hix with
  | int k n =>
    split at hk <;> try exact hk.elim
    · rename_i e hu
      split at hk <;> try exact hk.elim
      · cases hx with
        | slc i o len cap ex sz p c hp hc hl hxx he =>
          split at hk <;> try exact hk.elim
          rename_i z hz
          obtain ⟨hb, hk⟩ := chk_of hk
          have hb := inB_true hb
          refine .same r hk ?_ (.ptr _ _ p hp)
          simp [Instr.indexAt, asIntOf, run_underlying hu, hb, run_sizeT hz, add_at, Nat.add_assoc]
      · cases hx with
        | vs i o len g p c hp hc he =>
          split at hk <;> try exact hk.elim
          rename_i z hz
          obtain ⟨hb, hk⟩ := chk_of hk
          have hb := inB_true hb
          refine .same r hk ?_ (.vp _ _ _ p hp)
          simp [Instr.indexAt, asIntOf, run_underlying hu, hb, run_sizeT hz, add_at, Nat.add_assoc]
    · rename_i len e hu
      split at hk <;> try exact hk.elim
      cases hx with
      | ptr i o p hp =>
        split at hk <;> try exact hk.elim
        rename_i z hz
        obtain ⟨hb, hk⟩ := chk_of hk
        have hb := inB_true hb
        refine .same r hk ?_ (.ptr _ _ p hp)
        simp [Instr.indexAt, asIntOf, run_underlying hu, hb, run_sizeT hz, add_at, Nat.add_assoc, Instr.sureAddr]
theorem str_get {s : ByteArray} {l v : Nat} (hs : strOf s = .str l v) {n : Nat} (hn : n < l) : ∃ b, s[n]? = some b ∧ byteAt v n = b.toNat := by
  obtain ⟨e1, e2, rfl⟩ := strOf_str hs
  have h1 : n < s.data.toList.length := by omega
  refine ⟨s.data.toList[n], ?_, byteAt_eq _ _ _ (List.getElem?_eq_getElem h1)⟩
  have h2 : n < s.size := by omega
  rw [getElem?_pos s n h2]; rfl
theorem xindex_sound (r : RH L h w U) {t : TypeId} {x ix : AV} {x' ix' : Value} (hx : RV L x x') (hix : RV L ix ix') (hk : xindex m P t x ix h ds K) : SemOK P (Instr.index t x' ix') L h w U K := by
  unfold xindex at hk
  split at hk <;> try exact hk.elim
  rename_i k n
  cases hix with
  | int =>
    split at hk <;> try exact hk.elim
    · rename_i hu
      split at hk <;> try exact hk.elim
      cases hx with
      | str l v s hs =>
        obtain ⟨hb, hk⟩ := chk_of hk
        have hb := inB_true hb
        obtain ⟨b, g1, g2⟩ := str_get hs (n := n.toNat) (by omega)
        rw [g2] at hk
        refine .same r hk (v' := .int .u8 b.toNat) ?_ (.int _ _)
        simp [Instr.index, asIntOf, run_underlying hu, hb, g1]
    · rename_i len e hu
      split at hk <;> try exact hk.elim
      cases hx with
      | agg cs xs hxs =>
        split at hk <;> try exact hk.elim
        rename_i z hz
        obtain ⟨hb, hk⟩ := chk_of hk
        have hb := inB_true hb
        obtain ⟨v, v', g1, g2, g3⟩ := xpart_sound (w := w) hxs hk
        refine .same r g1 ?_ g3
        have g2 : (part e xs (n.toNat * z)).run P w = .ok v' w := g2
        simp [Instr.index, asIntOf, run_underlying hu, hb, run_sizeT hz, g2]
end
end
end Go.X

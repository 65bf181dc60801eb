/- An operation's run in continuations is one outcome and what is done with it. -/
import Derived.Test.YtjhbegfkeppcbaaXL
set_option autoImplicit false
set_option linter.unusedVariables false
namespace Go.X
noncomputable section

/-- one outcome, the heap as it was, whatever the heap -/
def SplQ (F : H → KV → Prop) : Prop := ∀ h K, F h K → ∃ v ds', K v h ds' ∧ ∀ h' K', K' v h' ds' → F h' K'
/-- one outcome, the heap as it was -/
def SplL (h : H) (F : KV → Prop) : Prop := ∀ K, F K → ∃ v ds', K v h ds' ∧ ∀ K', K' v h ds' → F K'
/-- one outcome: a new block, whatever the heap -/
def Names (mv : Nat → AV) : Prop := ∀ (L : LM) (n : Nat) (v : Value), RV L (mv n) v → ∃ p, L n = some p
def SplA (F : H → KV → Prop) : Prop := ∀ h K, F h K → ∃ (k : Blk) (mv : Nat → AV) (ds' : List Bool), Names mv ∧ K (mv h.next) (hnew h k) ds' ∧ ∀ h' K', K' (mv h'.next) (hnew h' k) ds' → F h' K'
/-- one outcome -/
def Spl (h : H) (F : KV → Prop) : Prop := ∀ K, F K → ∃ v h' ds', K v h' ds' ∧ h.next ≤ h'.next ∧ ∀ K', K' v h' ds' → F K'

theorem SplQ.l {F : H → KV → Prop} (s : SplQ F) (h : H) : SplL h (F h) := fun K hk => let ⟨v, ds', a, b⟩ := s h K hk; ⟨v, ds', a, b h⟩
theorem SplL.s {h : H} {F : KV → Prop} (s : SplL h F) : Spl h F := fun K hk => let ⟨v, ds', a, b⟩ := s K hk; ⟨v, h, ds', a, Nat.le_refl _, b⟩
theorem SplA.s {F : H → KV → Prop} (s : SplA F) (h : H) : Spl h (F h) := fun K hk => let ⟨_, _, ds', _, a, b⟩ := s h K hk; ⟨_, _, ds', a, Nat.le_succ _, b h⟩

theorem chk_mk {m b : Bool} {K : Prop} (h : b = true) (hk : K) : chk m b K := by
  subst h; cases m
  · exact hk
  · exact ⟨rfl, hk⟩
theorem chk_split {m b : Bool} {K : Prop} (h : chk m b K) : K ∧ ∀ K' : Prop, K' → chk m b K' := ⟨(chk_of h).2, fun _ hk => chk_mk (chk_of h).1 hk⟩
theorem dcd_split {m b : Bool} {ds : List Bool} {K : Bool → List Bool → Prop} (h : dcd m b ds K) : ∃ ds', K b ds' ∧ ∀ K' : Bool → List Bool → Prop, K' b ds' → dcd m b ds K' := by
  cases m with
  | false => exact ⟨ds, h, fun _ h => h⟩
  | true => cases ds with
    | nil => exact h.elim
    | cons d ds => obtain ⟨rfl, h⟩ := h; exact ⟨ds, h, fun _ h => ⟨rfl, h⟩⟩
theorem ari_split {m : Bool} {k : IntKind} {n : Int} {ds : List Bool} {K : AV → List Bool → Prop} (h : ari m k n ds K) : ∃ v ds', K v ds' ∧ ∀ K' : AV → List Bool → Prop, K' v ds' → ari m k n ds K' := by
  cases m with
  | false => exact ⟨_, ds, h, fun _ h => h⟩
  | true => cases ds with
    | nil => exact h.elim
    | cons d ds => cases d with
      | false => exact ⟨_, ds, h, fun _ h => h⟩
      | true => exact ⟨_, ds, h.2, fun _ hk => ⟨h.1, hk⟩⟩
section
variable {P : Program} {m : Bool} {ds : List Bool}
theorem q_here (v : AV) : SplQ (fun h K => K v h ds) := fun h K hk => ⟨v, ds, hk, fun _ _ h => h⟩
theorem q_false : SplQ (fun _ _ => False) := fun _ _ hk => hk.elim
theorem q_chk {b : Bool} {F : H → KV → Prop} (s : SplQ F) : SplQ (fun h K => chk m b (F h K)) := fun h K hk =>
  let ⟨a, b⟩ := chk_split hk
  let ⟨v, ds', c, d⟩ := s h K a
  ⟨v, ds', c, fun h' K' hk' => b _ (d h' K' hk')⟩
theorem q_dcd {b : Bool} {F : Bool → List Bool → H → KV → Prop} (s : ∀ ds, SplQ (F b ds)) : SplQ (fun h K => dcd m b ds fun b ds => F b ds h K) := fun h K hk =>
  let ⟨ds1, a, c⟩ := dcd_split hk
  let ⟨v, ds', e, d⟩ := s ds1 h K a
  ⟨v, ds', e, fun h' K' hk' => c _ (d h' K' hk')⟩
theorem q_ari {k : IntKind} {n : Int} : SplQ (fun h K => ari m k n ds fun v ds => K v h ds) := fun h K hk =>
  let ⟨v, ds1, a, c⟩ := ari_split hk
  ⟨v, ds1, a, fun h' K' hk' => c _ hk'⟩
theorem q_bool {b : Bool} {F G : H → KV → Prop} (s : SplQ F) (t : SplQ G) : SplQ (fun h K => Bool.rec (F h K) (G h K) b) := by
  cases b with
  | true => exact t
  | false => exact s
theorem q_bits {op : BinOp} {k : IntKind} {a b : Int} : SplQ (fun h K => xbits m op k a b ds fun v ds => K v h ds) := by
  unfold xbits; cases op <;> first | exact q_ari | exact q_false
theorem q_int {op : BinOp} {k : IntKind} {a b : Int} : SplQ (fun h K => xint m op k a b ds fun v ds => K v h ds) := by
  unfold xint; cases op <;> first
    | exact q_ari
    | exact q_chk q_ari
    | exact q_chk (q_here _)
    | exact q_dcd fun _ => q_here _
    | exact q_bits
theorem q_shift {op : BinOp} {k : IntKind} {a b : Int} : SplQ (fun h K => xshift m op k a b ds fun v ds => K v h ds) := by
  unfold xshift; cases op <;> first
    | exact q_chk q_ari
    | exact q_chk (q_here _)
    | exact q_chk q_false
theorem q_str {op : BinOp} {n v n' v' : Nat} : SplQ (fun h K => xstr m op n v n' v' ds fun v ds => K v h ds) := by
  unfold xstr; cases op <;> first
    | exact q_chk (q_here _)
    | exact q_dcd fun _ => q_here _
    | exact q_false
theorem q_eqK {op : BinOp} {t : TypeId} {x y : AV} : SplQ (fun h K => xeqK m P op t x y h ds K) := by
  unfold xeqK
  cases xeqT P 20 t x y with
  | none => exact q_false
  | some b => cases op <;> first
    | exact q_dcd fun _ => q_here _
    | exact q_false
theorem q_cls {op : BinOp} {t : TypeId} {x y : AV} : SplQ (fun h K => (Bool.rec False (xeqK m P op t x y h ds K) (cls x) : Prop)) := q_bool q_false q_eqK
theorem q_bin {op : BinOp} {t : TypeId} {x y : AV} : SplQ (fun h K => xbin m P op t x y h ds K) := by
  unfold xbin
  cases x
  case any => exact q_cls (P := P) (m := m) (ds := ds) (op := op) (t := t) (y := y) (x := .any)
  case bool b => exact q_cls (P := P) (m := m) (ds := ds) (op := op) (t := t) (y := y) (x := .bool b)
  case flt k b => exact q_cls (P := P) (m := m) (ds := ds) (op := op) (t := t) (y := y) (x := .flt k b)
  case nilp => exact q_cls (P := P) (m := m) (ds := ds) (op := op) (t := t) (y := y) (x := .nilp)
  case ptr i o => exact q_cls (P := P) (m := m) (ds := ds) (op := op) (t := t) (y := y) (x := .ptr i o)
  case nils => exact q_cls (P := P) (m := m) (ds := ds) (op := op) (t := t) (y := y) (x := .nils)
  case slc i o l c e s => exact q_cls (P := P) (m := m) (ds := ds) (op := op) (t := t) (y := y) (x := .slc i o l c e s)
  case emp => exact q_cls (P := P) (m := m) (ds := ds) (op := op) (t := t) (y := y) (x := .emp)
  case nilm => exact q_cls (P := P) (m := m) (ds := ds) (op := op) (t := t) (y := y) (x := .nilm)
  case map i => exact q_cls (P := P) (m := m) (ds := ds) (op := op) (t := t) (y := y) (x := .map i)
  case fn f a b => exact q_cls (P := P) (m := m) (ds := ds) (op := op) (t := t) (y := y) (x := .fn f a b)
  case nilf => exact q_cls (P := P) (m := m) (ds := ds) (op := op) (t := t) (y := y) (x := .nilf)
  case ifc u v => exact q_cls (P := P) (m := m) (ds := ds) (op := op) (t := t) (y := y) (x := .ifc u v)
  case tup vs => exact q_cls (P := P) (m := m) (ds := ds) (op := op) (t := t) (y := y) (x := .tup vs)
  case int k a => cases y <;> first | exact q_bool (q_bool q_false q_int) q_shift | exact q_false
  case str n v => cases y <;> first | exact q_str | exact q_false
  case agg cs => cases y <;> first | exact q_bool q_eqK q_false | exact q_false
  case nili => cases y <;> first | exact q_eqK | exact q_false
theorem q_part {t : TypeId} {cs : List AV} {off : Nat} : SplQ (fun h K => xpart m P t cs off fun v => K v h ds) := by
  unfold xpart
  cases shapeT P t with
  | none => exact q_false
  | some s => cases s with
    | none => cases lget cs off <;> first | exact q_here _ | exact q_false
    | some n => exact q_chk (q_here _)
theorem q_field {t : TypeId} {x : AV} {f : Nat} : SplQ (fun h K => xfield m P t x f h ds K) := by
  unfold xfield
  cases x <;> try exact q_false
  cases fieldT P t f <;> first | exact q_part | exact q_false
theorem q_faddr {t : TypeId} {x : AV} {f : Nat} : SplQ (fun h K => xfaddr P t x f h ds K) := by
  unfold xfaddr
  cases x <;> try exact q_false
  cases fieldT P t f with
  | none => exact q_false
  | some fd => dsimp only; cases sizeT P fd.type <;> first | exact q_bool (q_here _) q_false | exact q_false
theorem q_build {t : TypeId} {parts : List (Nat × AV)} : SplQ (fun h K => xbuild P t parts h ds K) := by
  unfold xbuild
  cases zcells P t with
  | none => exact q_false
  | some zs => cases placeOf P t with
    | none => exact q_false
    | some pl => dsimp only; cases xfill pl zs parts <;> first | exact q_here _ | exact q_false
theorem q_iaddr {t : TypeId} {x ix : AV} : SplQ (fun h K => xiaddr m P t x ix h ds K) := by
  unfold xiaddr
  cases ix <;> try exact q_false
  dsimp only
  split <;> try exact q_false
  · cases x <;> try exact q_false
    dsimp only; split <;> first | exact q_chk (q_here _) | exact q_false
  · cases x <;> try exact q_false
    dsimp only; split <;> first | exact q_chk (q_here _) | exact q_false
theorem q_index {t : TypeId} {x ix : AV} : SplQ (fun h K => xindex m P t x ix h ds K) := by
  unfold xindex
  cases ix <;> try exact q_false
  cases P.underlying t with
  | none => exact q_false
  | some d => cases d <;> try exact q_false
              case string => cases x <;> first | exact q_chk (q_here _) | exact q_false
              case array n e =>
                cases x <;> try exact q_false
                dsimp only
                cases sizeT P e <;> first | exact q_chk q_part | exact q_false
theorem q_bnd {x : Option AV} {d : Nat} {F : Nat → H → KV → Prop} (s : ∀ n, SplQ (F n)) : SplQ (fun h K => bnd x d fun n => F n h K) := by
  unfold bnd
  cases x with
  | none => exact s d
  | some a => cases a <;> try exact q_false
              case int k n => cases n <;> first | exact s _ | exact q_false
theorem q_slice {t : TypeId} {x : AV} {lo hi mx : Option AV} : SplQ (fun h K => xslice m P t x lo hi mx h ds K) := by
  unfold xslice
  cases P.underlying t with
  | none => exact q_false
  | some d =>
    cases d <;> try exact q_false
    case string =>
      cases x <;> try exact q_false
      cases mx <;> first | exact q_bnd fun _ => q_bnd fun _ => q_chk (q_here _) | exact q_false
    case slice e =>
      dsimp only
      cases sizeT P e with
      | none => exact q_false
      | some z =>
        cases x <;> try exact q_false
        case slc =>
          cases mx with
          | none => exact q_bnd fun _ => q_bnd fun _ => q_chk (q_dcd fun _ => q_bool (q_bool (q_here _) (q_here _)) (q_here _))
          | some mv =>
            cases hi with
            | none => exact q_false
            | some hv => exact q_bnd fun _ => q_bnd fun _ => q_bnd fun _ => q_chk (q_dcd fun _ => q_bool (q_here _) (q_here _))
        case nils => cases mx <;> first | exact q_bnd fun _ => q_bnd fun _ => q_chk (q_here _) | exact q_false
        case emp => cases mx <;> first | exact q_bnd fun _ => q_bnd fun _ => q_chk (q_here _) | exact q_false
theorem q_conv {s t : TypeId} {x : AV} : SplQ (fun h K => xconv m P s t x h ds K) := by
  unfold xconv
  cases P.underlying s with
  | none => exact q_false
  | some d =>
    cases P.underlying t with
    | none => exact q_false
    | some d' =>
      cases d' <;> try exact q_false
      case int k => cases x <;> first | exact q_ari | exact q_false
      case string => cases x <;> first | exact q_here _ | exact q_false
theorem q_un {op : UnOp} {x : AV} : SplQ (fun h K => xun m op x h ds K) := by
  unfold xun
  cases op <;> try exact q_false
  case neg => cases x <;> first | exact q_ari | exact q_false
  case xor => cases x <;> first | exact q_bits | exact q_false
  case not => cases x <;> first | exact q_here _ | exact q_false
theorem q_nil {x : AV} : SplQ (fun h K => xnil x h ds K) := by
  unfold xnil
  cases x <;> first
    | exact q_here _
    | exact q_false
    | (rename_i f _ _; cases f <;> first | exact q_here _ | exact q_false)
theorem q_ext {t : AV} {i : Nat} : SplQ (fun h K => xext t i h ds K) := by
  unfold xext
  cases t <;> try exact q_false
  rename_i vs
  dsimp only
  cases lget vs i <;> first | exact q_here _ | exact q_false
theorem q_pick {c a b : AV} : SplQ (fun h K => xpick c a b h ds K) := by
  unfold xpick
  cases c <;> first | exact q_here _ | exact q_false

/-- does an operation compute only? -/
def isQ (P : Program) (op : Op) : Bool := match op with
  | .move _ => true
  | .assign _ => true
  | .pick _ _ _ => true
  | .build _ _ => true
  | .nilCheck _ => true
  | .binOp _ _ _ _ _ => true
  | .unOp _ _ _ => true
  | .convert _ _ _ => true
  | .makeInterface _ _ => true
  | .makeFunc _ _ _ => true
  | .slice _ _ _ _ _ => true
  | .fieldAddr _ _ _ => true
  | .field _ _ _ => true
  | .indexAddr _ _ _ => true
  | .index _ _ _ => true
  | .extract _ _ => true
  | .call c => match c.callee with
    | .builtin .len => match c.argTypes.toList with
      | [t] => match P.underlying t with
        | some (.map _ _) => false
        | _ => true
      | _ => false
    | _ => false
  | _ => false
theorem q_len {t : TypeId} {x : AV} (hm : (match P.underlying t with | some (.map _ _) => false | _ => true) = true) : SplQ (fun h K => xlen P t x h ds K) := by
  unfold xlen
  cases hu : P.underlying t with
  | none => exact q_false
  | some d =>
    rw [hu] at hm
    cases d <;> try exact q_false
    case string => cases x <;> first | exact q_here _ | exact q_false
    case slice e => cases x <;> first | exact q_here _ | exact q_false
    case array n e => exact q_here _
    case map k e => cases hm
theorem xop_q {op : Op} (hq : isQ P op = true) (ρ : Operand → AV) : SplQ (fun h K => xop m P ρ op h ds K) := by
  cases op <;> first | (cases hq; done) | skip
  case move => exact q_here _
  case assign => exact q_here _
  case pick => exact q_pick
  case build => exact q_build
  case nilCheck => exact q_nil
  case binOp => exact q_bin
  case unOp => exact q_un
  case convert => exact q_conv
  case makeInterface => exact q_bool q_false (q_here _)
  case makeFunc => exact q_here _
  case slice => exact q_slice
  case fieldAddr => exact q_faddr
  case field => exact q_field
  case indexAddr => exact q_iaddr
  case index => exact q_index
  case extract => exact q_ext
  case call c =>
    obtain ⟨callee, args, ts⟩ := c
    cases callee <;> first | (cases hq; done) | skip
    rename_i b
    cases b <;> first | (cases hq; done) | skip
    show SplQ (fun h K => xblt m P ρ .len ts.toList args.toList h ds K)
    unfold xblt
    have hq : (match ts.toList with
      | [t] => match P.underlying t with
        | some (.map _ _) => false
        | _ => true
      | _ => false) = true := hq
    generalize ts.toList = tl at hq
    generalize args.toList = al
    match tl, al, hq with
    | [t], [x], hq => exact q_len hq
    | [t], [], _ => exact q_false
    | [t], _ :: _ :: _, _ => exact q_false
    | [], _, hq => cases hq
    | _ :: _ :: _, _, hq => cases hq

/-! looks into memory -/
def isL (op : Op) : Bool := match op with
  | .load _ _ => true
  | _ => false
theorem l_here {h : H} (v : AV) : SplL h (fun K => K v h ds) := fun _ hk => ⟨v, ds, hk, fun _ h => h⟩
theorem l_false {h : H} : SplL h (fun _ => False) := fun _ hk => hk.elim
theorem l_chk {h : H} {b : Bool} {F : KV → Prop} (s : SplL h F) : SplL h (fun K => chk m b (F K)) := fun K hk =>
  let ⟨a, b⟩ := chk_split hk
  let ⟨v, ds', c, d⟩ := s K a
  ⟨v, ds', c, fun K' hk' => b _ (d K' hk')⟩
theorem l_load {h : H} {t : TypeId} {x : AV} : SplL h (fun K => xload m P t x h ds K) := by
  unfold xload
  cases x <;> try exact l_false
  rename_i i o
  dsimp only
  cases h.b.get i with
  | none => exact l_false
  | some k =>
    cases k <;> try exact l_false
    rename_i cells e wr ps
    dsimp only
    cases shapeT P t with
    | none => exact l_false
    | some s => cases s with
      | none => dsimp only; cases lget cells o <;> first | exact l_here _ | exact l_false
      | some n => exact l_chk (l_here _)
theorem l_len {h : H} {t : TypeId} {x : AV} : SplL h (fun K => xlen P t x h ds K) := by
  unfold xlen
  cases P.underlying t with
  | none => exact l_false
  | some d =>
    cases d <;> try exact l_false
    case string => cases x <;> first | exact l_here _ | exact l_false
    case slice e => cases x <;> first | exact l_here _ | exact l_false
    case array n e => exact l_here _
    case map k e =>
      cases x <;> first | exact l_here _ | exact l_false | skip
      rename_i i
      dsimp only
      cases h.b.get i with
      | none => exact l_false
      | some k => cases k <;> first | exact l_here _ | exact l_false

/-! makes a block -/
def isA (op : Op) : Bool := match op with
  | .alloc _ => true
  | .box _ _ => true
  | .buildSlice _ _ _ => true
  | .makeSlice _ _ _ => true
  | _ => false
theorem a_here (k : Blk) (mv : Nat → AV) (hn : Names mv) : SplA (fun h K => K (mv h.next) (hnew h k) ds) := fun h K hk => ⟨k, mv, ds, hn, hk, fun _ _ h => h⟩
theorem names_ptr : Names (fun n => .ptr n 0) := fun L n v h => by cases h; exact ⟨_, by assumption⟩
theorem names_slc (l c s : Nat) (e : Bool) : Names (fun n => .slc n 0 l c e s) := fun L n v h => by cases h; exact ⟨_, by assumption⟩
theorem a_false : SplA (fun _ _ => False) := fun _ _ hk => hk.elim
theorem a_chk {b : Bool} {F : H → KV → Prop} (s : SplA F) : SplA (fun h K => chk m b (F h K)) := fun h K hk =>
  let ⟨a, b⟩ := chk_split hk
  let ⟨k, mv, ds', nm, c, d⟩ := s h K a
  ⟨k, mv, ds', nm, c, fun h' K' hk' => b _ (d h' K' hk')⟩
theorem a_i64 {v : AV} {F : Nat → H → KV → Prop} (s : ∀ n, SplA (F n)) : SplA (fun h K => i64n v fun n => F n h K) := by
  unfold i64n
  cases v <;> try exact a_false
  rename_i k n
  cases n <;> first | exact s _ | exact a_false
theorem a_alloc {t : TypeId} : SplA (fun h K => xalloc P t h ds K) := by
  unfold xalloc
  cases zcells P t with
  | none => exact a_false
  | some zs => exact a_here (.row zs t true []) (fun n => .ptr n 0) names_ptr
theorem a_box {t : TypeId} {v : AV} : SplA (fun h K => xbox t v h ds K) := by
  unfold xbox
  cases v.cells with
  | none => exact a_false
  | some cs => exact a_here (.row cs t true []) (fun n => .ptr n 0) names_ptr
theorem a_bslice {t : TypeId} {len : Nat} {parts : List (Nat × AV)} : SplA (fun h K => xbslice m P t len parts h ds K) := by
  unfold xbslice
  cases elemT P t with
  | none => exact a_false
  | some e => dsimp only; cases sizeT P e with
    | none => exact a_false
    | some sz => cases zcells P e with
      | none => exact a_false
      | some zs => dsimp only; cases xfill (fun i => some (Nat.mul i sz, sz)) (lrep len zs) parts with
        | none => exact a_false
        | some cs => exact a_chk (a_here (.row cs e true []) (fun n => .slc n 0 len len true sz) (names_slc _ _ _ _))
theorem a_make {t : TypeId} {len cap : AV} : SplA (fun h K => xmake m P t len cap h ds K) := by
  unfold xmake
  cases elemT P t with
  | none => exact a_false
  | some e => dsimp only; cases sizeT P e with
    | none => exact a_false
    | some sz => cases zcells P e with
      | none => exact a_false
      | some zs => cases bytesT P e with
        | none => exact a_false
        | some by_ => exact a_i64 fun l => a_i64 fun c => a_chk (a_here (.row (lrep c zs) e true []) (fun n => .slc n 0 l c true sz) (names_slc _ _ _ _))
theorem xop_a {op : Op} (hq : isA op = true) (ρ : Operand → AV) : SplA (fun h K => xop m P ρ op h ds K) := by
  cases op <;> first | (cases hq; done) | skip
  case alloc => exact a_alloc
  case box => exact a_box
  case buildSlice => exact a_bslice
  case makeSlice => exact a_make

/-! all else -/
theorem s_here {h : H} (v : AV) (h' : H) (hl : h.next ≤ h'.next) : Spl h (fun K => K v h' ds) := fun _ hk => ⟨v, h', ds, hk, hl, fun _ h => h⟩
theorem s_false {h : H} : Spl h (fun _ => False) := fun _ hk => hk.elim
theorem s_chk {h : H} {b : Bool} {F : KV → Prop} (s : Spl h F) : Spl h (fun K => chk m b (F K)) := fun K hk =>
  let ⟨a, b⟩ := chk_split hk
  let ⟨v, h', ds', c, l, d⟩ := s K a
  ⟨v, h', ds', c, l, fun K' hk' => b _ (d K' hk')⟩
theorem s_dcd {h : H} {b : Bool} {F : Bool → List Bool → KV → Prop} (s : ∀ ds, Spl h (F b ds)) : Spl h (fun K => dcd m b ds fun b ds => F b ds K) := fun K hk =>
  let ⟨ds1, a, c⟩ := dcd_split hk
  let ⟨v, h', ds', e, l, d⟩ := s ds1 K a
  ⟨v, h', ds', e, l, fun K' hk' => c _ (d K' hk')⟩
theorem s_bool {h : H} {b : Bool} {F G : KV → Prop} (s : Spl h F) (t : Spl h G) : Spl h (fun K => Bool.rec (F K) (G K) b) := by
  cases b with
  | true => exact t
  | false => exact s
theorem s_hwr {h : H} {i o : Nat} {xs : List AV} {v : AV → H → AV} {u : AV} : Spl h (fun K => hwr m h i o xs fun h' => K u h' ds) := by
  unfold hwr
  cases h.b.get i with
  | none => exact s_false
  | some k =>
    cases k <;> try exact s_false
    rename_i cells e wr ps
    cases wr with
    | false => exact s_false
    | true => exact s_chk (s_bool s_false (s_here _ _ (Nat.le_refl _)))
theorem s_store {h : H} {t : TypeId} {x v : AV} : Spl h (fun K => xstore m P t x v h ds K) := by
  unfold xstore
  cases x <;> try exact s_false
  dsimp only
  cases v.cells with
  | none => exact s_false
  | some cs => dsimp only; cases sizeT P t with
    | none => exact s_false
    | some n => exact s_chk (s_hwr (v := fun a _ => a))
theorem s_appN {h : H} {by_ sz : Nat} {e : TypeId} {s : AV} {n : Nat} {news : List AV} : Spl h (fun K => xappN m by_ sz e s n news h ds K) := by
  unfold xappN
  cases s <;> try exact s_false
  case nils => exact s_chk (s_here _ _ (Nat.le_succ _))
  case slc i o l cap ex sz' =>
    refine s_chk (s_dcd fun ds => s_bool ?_ (s_hwr (v := fun a _ => a)))
    cases h.b.get i with
    | none => exact s_false
    | some k =>
      cases k <;> try exact s_false
      exact s_chk (s_bool (s_bool s_false (s_bool s_false (s_here _ _ (Nat.le_succ _)))) (s_here _ _ (Nat.le_succ _)))
theorem s_app {h : H} {t tx : TypeId} {s x : AV} : Spl h (fun K => xapp m P t tx s x h ds K) := by
  unfold xapp
  cases elemT P t with
  | none => exact s_false
  | some e => cases elemT P tx with
    | none => exact s_false
    | some e2 => dsimp only; cases sizeT P e with
      | none => exact s_false
      | some sz => cases zcells P e with
        | none => exact s_false
        | some zs => cases bytesT P e with
          | none => exact s_false
          | some by_ =>
            cases x <;> try exact s_false
            case nils => cases s <;> first | exact s_here _ _ (Nat.le_refl _) | exact s_false
            case emp => cases s <;> first | exact s_here _ _ (Nat.le_refl _) | exact s_false
            case slc j oj n cj exj szj =>
              refine s_dcd fun ds => s_bool ?_ ?_
              · cases h.b.get j with
                | none => exact s_false
                | some k =>
                  cases k <;> try exact s_false
                  exact s_chk s_appN
              · cases s <;> first | exact s_here _ _ (Nat.le_refl _) | exact s_false
theorem xop_s (op : Op) (ρ : Operand → AV) (h : H) : Spl h (fun K => xop m P ρ op h ds K) := by
  cases hq : isQ P op with
  | true => exact ((xop_q hq ρ).l h).s
  | false =>
    cases ha : isA op with
    | true => exact (xop_a ha ρ).s h
    | false =>
      cases op <;> first | (cases hq; done) | (cases ha; done) | exact s_false | skip
      case load => exact l_load.s
      case store => exact s_store
      case call c =>
        obtain ⟨callee, args, ts⟩ := c
        cases callee <;> try exact s_false
        rename_i b
        show Spl h (fun K => xblt m P ρ b ts.toList args.toList h ds K)
        unfold xblt
        cases b <;> try exact s_false
        case len =>
          match ts.toList, args.toList with
          | [t], [x] => exact l_len.s
          | [], _ => exact s_false
          | [_], [] => exact s_false
          | [_], _ :: _ :: _ => exact s_false
          | _ :: _ :: _, _ => exact s_false
        case append =>
          match ts.toList, args.toList with
          | [t, tx], [x, y] => exact s_app
          | [], _ => exact s_false
          | [_], _ => exact s_false
          | [_, _], [] => exact s_false
          | [_, _], [_] => exact s_false
          | [_, _], _ :: _ :: _ :: _ => exact s_false
          | _ :: _ :: _ :: _, _ => exact s_false
end
end
end Go.X

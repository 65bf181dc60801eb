/- Drat: what it is to add a clause. -/
import Derived.Test.YtagfnjpjmmleiaaDoorTL
import Derived.Lib.AppendIntMem
set_option linter.unusedVariables false
set_option linter.unusedSimpArgs false
set_option autoImplicit false
set_option linter.unusedVariables false
set_option linter.unusedSimpArgs false
namespace Go.Proofs.YtagfnjpjmmleiaaDoor
open Go.Shelf Go.RowKit
abbrev Tab (B : Nat) (w : World) : Prop := Lib.TabBelow Tryd.prog B w "internal/strconv.uint64pow10" .u64 Lib.pow10Tab
theorem Tab.below {B : Nat} {w w' : World} (h : Tab B w) (hb : Below B w w') : Tab B w' := fun v hv => h v (hb.trans hv)
def AddOut (cx : Cx) (own : Nat → Option Tag) (S' : St) (w : World) (e : Ending) (w' : World) : Prop :=
  e = .returned (.tuple #[]) ∧ ∃ own' rv', Rep cx w' own' rv' S' ∧ Frm own own' w w'
/-- the law of add, as its caller uses it -/
def AddLaw : Prop := ∀ (cx : Cx) (own : Nat → Option Tag) (rv : Tag → Value) (S : St) (w : World) (la : Option Addr) (ln lc : Nat) (zl : List Int) (h : Rep cx w own rv S) (hp : RestS cx.V S) (hln : zl.length = ln) (hl9 : ln ≤ 1000000) (hi : Ints w la zl) (hll : Lits (cx.V + 1) zl) (hV : cx.V ≤ 900000) (hN : S.n ≤ 1000000) (hm : S.m ≤ 10000000) (ht : Tab cx.lo w),
    Calls Tryd.prog 29 #[.pointer (some ⟨cx.xb, 0, none⟩), .slice la ln lc] w (AddOut cx own (addS S (setZ zl)) w)
end Go.Proofs.YtagfnjpjmmleiaaDoor

/-
  No cell of these rows narrows 'for every input' (looked for: loops, veiled, ifaces, maps, wideKeys, modest, calm, conditions, laid).
  DERIVED. THE GIVEN ROWS OF THIS SEAT. 5 by the template 'for every input the law returns true; each argument reads behind the call as it read before'; 0 by the template 'total and deterministic' (their statements: YtkpppmldbhgcgaaTotals.lean).
  GIVEN WITH THE SEED: the statements are not yours to turn. If you find one false, say at which input.
  Laid BY PROGRAM, IN A SANDBOX (cutbox-rows.mjs): the forced cells as the released guide's own fill.sh prints them over the translation 65fa5ae57c31c659… (all of the seat's roots in one cut). By AI agents, Wed Nov 11 2026. No macro, syntax, notation, axiom, sorry.
-/
import Derived.Test.YtkpppmldbhgcgaaChecked
import GoSem.Claim
import GoSem.ClaimJoined
import GoSem.ClaimMapViews
import Derived.JoinedTies
import Derived.KernelRfl
namespace Go.Proofs.Ytkpppmldbhgcgaa
/- THE CELL 'sum', in the pinned program and in every row, IS THE sha256 OF THE DUMP (.gsa) THAT YtkpppmldbhgcgaaProg.lean LOADS. Nothing in Lean hashes anything: it is a label: what it is worth is what the hold of that sum in a sandbox is worth. -/
noncomputable def Try.pinned : Pinned := { name := "ytkpppmldbhgcgaa", sum := "65fa5ae57c31c6593aef12e96c1e29a363ef562c63bc19d526adc75591030257", checked := Try.checked }
namespace Rows
def none {H : Type} : Left H := { results := [], args := [] }

/-- 'metronomelaw25.SatSolves': WHATEVER THE INPUT: true; the input reads as it did. -/
def satSolvesSpec : ChangeSpec := { name := "satSolves", fn := fun _ => fun
  | [d1, d2] => { results := [.lit (.bool true)], args := [d1, d2] }
  | _ => none }
def satSolvesRow : OpenClaim := { program := "ytkpppmldbhgcgaa", sum := "65fa5ae57c31c6593aef12e96c1e29a363ef562c63bc19d526adc75591030257", func := "metronome/metronomelaw25.SatSolves", spec := "satSolves", unfollowed := true, recurses := true, apart := false }
def SatSolvesSaid : Prop := satSolvesRow.holds Try.pinned (OpenSpec.ofChange satSolvesSpec)

/-- ITS FALSE NEIGHBOUR: 'it returns false'. Refute it at one input. -/
def satSolvesWrong : ChangeSpec := { name := "satSolves", fn := fun _ => fun
  | [d1, d2] => { results := [.lit (.bool false)], args := [d1, d2] }
  | _ => none }
def SatSolvesWrongFalsely : Prop := satSolvesRow.holds Try.pinned (OpenSpec.ofChange satSolvesWrong)

/-- 'metronomelaw25.SatSmall': WHATEVER THE INPUT: true; the input reads as it did. -/
def satSmallSpec : ChangeSpec := { name := "satSmall", fn := fun _ => fun
  | [d] => { results := [.lit (.bool true)], args := [d] }
  | _ => none }
def satSmallRow : OpenClaim := { program := "ytkpppmldbhgcgaa", sum := "65fa5ae57c31c6593aef12e96c1e29a363ef562c63bc19d526adc75591030257", func := "metronome/metronomelaw25.SatSmall", spec := "satSmall", unfollowed := true, recurses := true, apart := false }
def SatSmallSaid : Prop := satSmallRow.holds Try.pinned (OpenSpec.ofChange satSmallSpec)

/-- ITS FALSE NEIGHBOUR: 'it returns false'. Refute it at one input. -/
def satSmallWrong : ChangeSpec := { name := "satSmall", fn := fun _ => fun
  | [d] => { results := [.lit (.bool false)], args := [d] }
  | _ => none }
def SatSmallWrongFalsely : Prop := satSmallRow.holds Try.pinned (OpenSpec.ofChange satSmallWrong)

/-- 'metronomelaw25.SatPairs': WHATEVER THE INPUT: true; the input reads as it did. -/
def satPairsSpec : ChangeSpec := { name := "satPairs", fn := fun _ => fun
  | [d1, d2] => { results := [.lit (.bool true)], args := [d1, d2] }
  | _ => none }
def satPairsRow : OpenClaim := { program := "ytkpppmldbhgcgaa", sum := "65fa5ae57c31c6593aef12e96c1e29a363ef562c63bc19d526adc75591030257", func := "metronome/metronomelaw25.SatPairs", spec := "satPairs", unfollowed := true, recurses := true, apart := false }
def SatPairsSaid : Prop := satPairsRow.holds Try.pinned (OpenSpec.ofChange satPairsSpec)

/-- ITS FALSE NEIGHBOUR: 'it returns false'. Refute it at one input. -/
def satPairsWrong : ChangeSpec := { name := "satPairs", fn := fun _ => fun
  | [d1, d2] => { results := [.lit (.bool false)], args := [d1, d2] }
  | _ => none }
def SatPairsWrongFalsely : Prop := satPairsRow.holds Try.pinned (OpenSpec.ofChange satPairsWrong)

/-- 'metronomelaw25.SatHoles': WHATEVER THE INPUT: true; the input reads as it did. -/
def satHolesSpec : ChangeSpec := { name := "satHoles", fn := fun _ => fun
  | [d1, d2] => { results := [.lit (.bool true)], args := [d1, d2] }
  | _ => none }
def satHolesRow : OpenClaim := { program := "ytkpppmldbhgcgaa", sum := "65fa5ae57c31c6593aef12e96c1e29a363ef562c63bc19d526adc75591030257", func := "metronome/metronomelaw25.SatHoles", spec := "satHoles", unfollowed := true, recurses := true, apart := false }
def SatHolesSaid : Prop := satHolesRow.holds Try.pinned (OpenSpec.ofChange satHolesSpec)

/-- ITS FALSE NEIGHBOUR: 'it returns false'. Refute it at one input. -/
def satHolesWrong : ChangeSpec := { name := "satHoles", fn := fun _ => fun
  | [d1, d2] => { results := [.lit (.bool false)], args := [d1, d2] }
  | _ => none }
def SatHolesWrongFalsely : Prop := satHolesRow.holds Try.pinned (OpenSpec.ofChange satHolesWrong)

/-- 'metronomelaw25.SatAlike': WHATEVER THE INPUT: true; the input reads as it did. -/
def satAlikeSpec : ChangeSpec := { name := "satAlike", fn := fun _ => fun
  | [d1, d2] => { results := [.lit (.bool true)], args := [d1, d2] }
  | _ => none }
def satAlikeRow : OpenClaim := { program := "ytkpppmldbhgcgaa", sum := "65fa5ae57c31c6593aef12e96c1e29a363ef562c63bc19d526adc75591030257", func := "metronome/metronomelaw25.SatAlike", spec := "satAlike", unfollowed := true, recurses := true, apart := false }
def SatAlikeSaid : Prop := satAlikeRow.holds Try.pinned (OpenSpec.ofChange satAlikeSpec)

/-- ITS FALSE NEIGHBOUR: 'it returns false'. Refute it at one input. -/
def satAlikeWrong : ChangeSpec := { name := "satAlike", fn := fun _ => fun
  | [d1, d2] => { results := [.lit (.bool false)], args := [d1, d2] }
  | _ => none }
def SatAlikeWrongFalsely : Prop := satAlikeRow.holds Try.pinned (OpenSpec.ofChange satAlikeWrong)

/- THE SECOND FORM. 'bulk': how many values and letters a reading holds, each counted each time it is reached (what is shared counts as often as it is met; a slice's spare places count too). A statement '..UptoSaid' is the law's where the arguments, and the package variables that the reading takes, are together of bulk at most 1048576: NARROWER than '..Said'. Prove '..Said' where nothing that the law and all that it calls make is longer than what came in: it says more and counts as full. Else prove '..UptoSaid'. A law counts once. -/
mutual
def uptoBulk {H : Type} : DataW H → Nat
  | .lit (.string bytes) => bytes.length + 1
  | .lit _ => 1
  | .nil => 1
  | .ptr d => uptoBulk d + 1
  | .slice elems spare => uptoBulkAll elems + uptoBulkAll spare + 1
  | .agg parts => uptoBulkAll parts + 1
  | .iface _ d => uptoBulk d + 1
  | .map entries => uptoBulkEntries entries + 1
  | .held _ => 1
def uptoBulkAll {H : Type} : List (DataW H) → Nat
  | [] => 0
  | d :: r => uptoBulk d + uptoBulkAll r
def uptoBulkEntries {H : Type} : List (Lit × DataW H) → Nat
  | [] => 0
  | x :: r => uptoBulkEntry x + uptoBulkEntries r
def uptoBulkEntry {H : Type} : Lit × DataW H → Nat
  | (.string bytes, d) => bytes.length + uptoBulk d + 1
  | (_, d) => uptoBulk d + 1
 end
def uptoSmall : (H : Type) → List (DataW H) → Bool := fun _ ds => decide (uptoBulkAll ds ≤ 1048576)
def OpenSpec.upto (s : _root_.Go.ChangeSpec) : _root_.Go.OpenSpec := { _root_.Go.OpenSpec.ofChange s with cond := some uptoSmall }

/-- 'metronomelaw25.SatSolves', WHERE WHAT IT READS IS OF BULK AT MOST 1048576: true; the input reads as it did. -/
def satSolvesUptoRow : OpenClaim := { program := "ytkpppmldbhgcgaa", sum := "65fa5ae57c31c6593aef12e96c1e29a363ef562c63bc19d526adc75591030257", func := "metronome/metronomelaw25.SatSolves", spec := "satSolves", unfollowed := true, recurses := true, apart := false, narrowed := true }
def SatSolvesUptoSaid : Prop := satSolvesUptoRow.holds Try.pinned (OpenSpec.upto satSolvesSpec)

/-- 'metronomelaw25.SatSmall', WHERE WHAT IT READS IS OF BULK AT MOST 1048576: true; the input reads as it did. -/
def satSmallUptoRow : OpenClaim := { program := "ytkpppmldbhgcgaa", sum := "65fa5ae57c31c6593aef12e96c1e29a363ef562c63bc19d526adc75591030257", func := "metronome/metronomelaw25.SatSmall", spec := "satSmall", unfollowed := true, recurses := true, apart := false, narrowed := true }
def SatSmallUptoSaid : Prop := satSmallUptoRow.holds Try.pinned (OpenSpec.upto satSmallSpec)

/-- 'metronomelaw25.SatPairs', WHERE WHAT IT READS IS OF BULK AT MOST 1048576: true; the input reads as it did. -/
def satPairsUptoRow : OpenClaim := { program := "ytkpppmldbhgcgaa", sum := "65fa5ae57c31c6593aef12e96c1e29a363ef562c63bc19d526adc75591030257", func := "metronome/metronomelaw25.SatPairs", spec := "satPairs", unfollowed := true, recurses := true, apart := false, narrowed := true }
def SatPairsUptoSaid : Prop := satPairsUptoRow.holds Try.pinned (OpenSpec.upto satPairsSpec)

/-- 'metronomelaw25.SatHoles', WHERE WHAT IT READS IS OF BULK AT MOST 1048576: true; the input reads as it did. -/
def satHolesUptoRow : OpenClaim := { program := "ytkpppmldbhgcgaa", sum := "65fa5ae57c31c6593aef12e96c1e29a363ef562c63bc19d526adc75591030257", func := "metronome/metronomelaw25.SatHoles", spec := "satHoles", unfollowed := true, recurses := true, apart := false, narrowed := true }
def SatHolesUptoSaid : Prop := satHolesUptoRow.holds Try.pinned (OpenSpec.upto satHolesSpec)

/-- 'metronomelaw25.SatAlike', WHERE WHAT IT READS IS OF BULK AT MOST 1048576: true; the input reads as it did. -/
def satAlikeUptoRow : OpenClaim := { program := "ytkpppmldbhgcgaa", sum := "65fa5ae57c31c6593aef12e96c1e29a363ef562c63bc19d526adc75591030257", func := "metronome/metronomelaw25.SatAlike", spec := "satAlike", unfollowed := true, recurses := true, apart := false, narrowed := true }
def SatAlikeUptoSaid : Prop := satAlikeUptoRow.holds Try.pinned (OpenSpec.upto satAlikeSpec)

end Rows
end Go.Proofs.Ytkpppmldbhgcgaa

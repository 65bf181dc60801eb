/-
  No cell of these rows narrows 'for every input' (looked for: loops, veiled, ifaces, maps, wideKeys, modest, calm, conditions, laid).
  DERIVED. THE GIVEN ROWS OF THIS SEAT. 9 by the template 'for every input the law returns true; each argument reads behind the call as it read before'; 0 by the template 'total and deterministic' (their statements: YtkfhjobebhdpoaaGreatTotals.lean).
  GIVEN WITH THE SEED: the statements are not yours to turn. If you find one false, say at which input.
  Laid BY PROGRAM, IN A SANDBOX (cutbox-rows.mjs): the forced cells as the released guide's own fill.sh prints them over the translation 56968a88aa033aa1… (all of the seat's roots in one cut). By AI agents, Wed Nov 11 2026. No macro, syntax, notation, axiom, sorry.
-/
import Derived.Test.YtkfhjobebhdpoaaGreatChecked
import GoSem.Claim
import GoSem.ClaimJoined
import GoSem.ClaimMapViews
import Derived.JoinedTies
import Derived.KernelRfl
namespace Go.Proofs.YtkfhjobebhdpoaaGreat
/- THE CELL 'sum', in the pinned program and in every row, IS THE sha256 OF THE DUMP (.gsa) THAT YtkfhjobebhdpoaaGreatProg.lean LOADS. Nothing in Lean hashes anything: it is a label: what it is worth is what the hold of that sum in a sandbox is worth. -/
noncomputable def Tryz.pinned : Pinned := { name := "ytkfhjobebhdpoaagreat", sum := "56968a88aa033aa1913d518783bb42fc1a02ff2653e9f6a0d511120f658a29be", checked := Tryz.checked }
namespace Rows
def none {H : Type} : Left H := { results := [], args := [] }

/-- 'metronomelaw11.StreamSums': WHATEVER THE INPUT: true; the input reads as it did. -/
def streamSumsSpec : ChangeSpec := { name := "streamSums", fn := fun _ => fun
  | [d] => { results := [.lit (.bool true)], args := [d] }
  | _ => none }
def streamSumsRow : OpenClaim := { program := "ytkfhjobebhdpoaagreat", sum := "56968a88aa033aa1913d518783bb42fc1a02ff2653e9f6a0d511120f658a29be", func := "metronome/metronomelaw11.StreamSums", spec := "streamSums", inPlace := ["maps.clone"], unfollowed := true, recurses := true, plainKeys := false, apart := false }
def StreamSumsSaid : Prop := streamSumsRow.holds Tryz.pinned (OpenSpec.ofChange streamSumsSpec)

/-- ITS FALSE NEIGHBOUR: 'it returns false'. Refute it at one input. -/
def streamSumsWrong : ChangeSpec := { name := "streamSums", fn := fun _ => fun
  | [d] => { results := [.lit (.bool false)], args := [d] }
  | _ => none }
def StreamSumsWrongFalsely : Prop := streamSumsRow.holds Tryz.pinned (OpenSpec.ofChange streamSumsWrong)

/-- 'metronomelaw11.StreamResets': WHATEVER THE INPUT: true; the input reads as it did. -/
def streamResetsSpec : ChangeSpec := { name := "streamResets", fn := fun _ => fun
  | [d] => { results := [.lit (.bool true)], args := [d] }
  | _ => none }
def streamResetsRow : OpenClaim := { program := "ytkfhjobebhdpoaagreat", sum := "56968a88aa033aa1913d518783bb42fc1a02ff2653e9f6a0d511120f658a29be", func := "metronome/metronomelaw11.StreamResets", spec := "streamResets", inPlace := ["maps.clone"], unfollowed := true, recurses := true, plainKeys := false, apart := false }
def StreamResetsSaid : Prop := streamResetsRow.holds Tryz.pinned (OpenSpec.ofChange streamResetsSpec)

/-- ITS FALSE NEIGHBOUR: 'it returns false'. Refute it at one input. -/
def streamResetsWrong : ChangeSpec := { name := "streamResets", fn := fun _ => fun
  | [d] => { results := [.lit (.bool false)], args := [d] }
  | _ => none }
def StreamResetsWrongFalsely : Prop := streamResetsRow.holds Tryz.pinned (OpenSpec.ofChange streamResetsWrong)

/-- 'metronomelaw11.StreamClocks': WHATEVER THE INPUT: true; the input reads as it did. -/
def streamClocksSpec : ChangeSpec := { name := "streamClocks", fn := fun _ => fun
  | [d] => { results := [.lit (.bool true)], args := [d] }
  | _ => none }
def streamClocksRow : OpenClaim := { program := "ytkfhjobebhdpoaagreat", sum := "56968a88aa033aa1913d518783bb42fc1a02ff2653e9f6a0d511120f658a29be", func := "metronome/metronomelaw11.StreamClocks", spec := "streamClocks", inPlace := ["maps.clone"], unfollowed := true, recurses := true, plainKeys := false, apart := false }
def StreamClocksSaid : Prop := streamClocksRow.holds Tryz.pinned (OpenSpec.ofChange streamClocksSpec)

/-- ITS FALSE NEIGHBOUR: 'it returns false'. Refute it at one input. -/
def streamClocksWrong : ChangeSpec := { name := "streamClocks", fn := fun _ => fun
  | [d] => { results := [.lit (.bool false)], args := [d] }
  | _ => none }
def StreamClocksWrongFalsely : Prop := streamClocksRow.holds Tryz.pinned (OpenSpec.ofChange streamClocksWrong)

/-- 'metronomelaw11.StreamAutomata': WHATEVER THE INPUT: true; the input reads as it did. -/
def streamAutomataSpec : ChangeSpec := { name := "streamAutomata", fn := fun _ => fun
  | [d1, d2, d3] => { results := [.lit (.bool true)], args := [d1, d2, d3] }
  | _ => none }
def streamAutomataRow : OpenClaim := { program := "ytkfhjobebhdpoaagreat", sum := "56968a88aa033aa1913d518783bb42fc1a02ff2653e9f6a0d511120f658a29be", func := "metronome/metronomelaw11.StreamAutomata", spec := "streamAutomata", inPlace := ["maps.clone"], unfollowed := true, recurses := true, plainKeys := false, apart := false }
def StreamAutomataSaid : Prop := streamAutomataRow.holds Tryz.pinned (OpenSpec.ofChange streamAutomataSpec)

/-- ITS FALSE NEIGHBOUR: 'it returns false'. Refute it at one input. -/
def streamAutomataWrong : ChangeSpec := { name := "streamAutomata", fn := fun _ => fun
  | [d1, d2, d3] => { results := [.lit (.bool false)], args := [d1, d2, d3] }
  | _ => none }
def StreamAutomataWrongFalsely : Prop := streamAutomataRow.holds Tryz.pinned (OpenSpec.ofChange streamAutomataWrong)

/-- 'metronomelaw11.StreamArrays': WHATEVER THE INPUT: true; the input reads as it did. -/
def streamArraysSpec : ChangeSpec := { name := "streamArrays", fn := fun _ => fun
  | [d1, d2] => { results := [.lit (.bool true)], args := [d1, d2] }
  | _ => none }
def streamArraysRow : OpenClaim := { program := "ytkfhjobebhdpoaagreat", sum := "56968a88aa033aa1913d518783bb42fc1a02ff2653e9f6a0d511120f658a29be", func := "metronome/metronomelaw11.StreamArrays", spec := "streamArrays", inPlace := ["maps.clone"], unfollowed := true, recurses := true, plainKeys := false, apart := false }
def StreamArraysSaid : Prop := streamArraysRow.holds Tryz.pinned (OpenSpec.ofChange streamArraysSpec)

/-- ITS FALSE NEIGHBOUR: 'it returns false'. Refute it at one input. -/
def streamArraysWrong : ChangeSpec := { name := "streamArrays", fn := fun _ => fun
  | [d1, d2] => { results := [.lit (.bool false)], args := [d1, d2] }
  | _ => none }
def StreamArraysWrongFalsely : Prop := streamArraysRow.holds Tryz.pinned (OpenSpec.ofChange streamArraysWrong)

/-- 'metronomelaw11.StreamWrong': WHATEVER THE INPUT: true; the input reads as it did. -/
def streamWrongSpec : ChangeSpec := { name := "streamWrong", fn := fun _ => fun
  | [d1, d2] => { results := [.lit (.bool true)], args := [d1, d2] }
  | _ => none }
def streamWrongRow : OpenClaim := { program := "ytkfhjobebhdpoaagreat", sum := "56968a88aa033aa1913d518783bb42fc1a02ff2653e9f6a0d511120f658a29be", func := "metronome/metronomelaw11.StreamWrong", spec := "streamWrong", inPlace := ["maps.clone"], unfollowed := true, recurses := true, plainKeys := false, apart := false }
def StreamWrongSaid : Prop := streamWrongRow.holds Tryz.pinned (OpenSpec.ofChange streamWrongSpec)

/-- ITS FALSE NEIGHBOUR: 'it returns false'. Refute it at one input. -/
def streamWrongWrong : ChangeSpec := { name := "streamWrong", fn := fun _ => fun
  | [d1, d2] => { results := [.lit (.bool false)], args := [d1, d2] }
  | _ => none }
def StreamWrongWrongFalsely : Prop := streamWrongRow.holds Tryz.pinned (OpenSpec.ofChange streamWrongWrong)

/-- 'metronomelaw11.StreamDeep': WHATEVER THE INPUT: true; the input reads as it did. -/
def streamDeepSpec : ChangeSpec := { name := "streamDeep", fn := fun _ => fun
  | [d] => { results := [.lit (.bool true)], args := [d] }
  | _ => none }
def streamDeepRow : OpenClaim := { program := "ytkfhjobebhdpoaagreat", sum := "56968a88aa033aa1913d518783bb42fc1a02ff2653e9f6a0d511120f658a29be", func := "metronome/metronomelaw11.StreamDeep", spec := "streamDeep", inPlace := ["maps.clone"], unfollowed := true, recurses := true, plainKeys := false, apart := false }
def StreamDeepSaid : Prop := streamDeepRow.holds Tryz.pinned (OpenSpec.ofChange streamDeepSpec)

/-- ITS FALSE NEIGHBOUR: 'it returns false'. Refute it at one input. -/
def streamDeepWrong : ChangeSpec := { name := "streamDeep", fn := fun _ => fun
  | [d] => { results := [.lit (.bool false)], args := [d] }
  | _ => none }
def StreamDeepWrongFalsely : Prop := streamDeepRow.holds Tryz.pinned (OpenSpec.ofChange streamDeepWrong)

/-- 'metronomelaw11.StreamMerges': WHATEVER THE INPUT: true; the input reads as it did. -/
def streamMergesSpec : ChangeSpec := { name := "streamMerges", fn := fun _ => fun
  | [d] => { results := [.lit (.bool true)], args := [d] }
  | _ => none }
def streamMergesRow : OpenClaim := { program := "ytkfhjobebhdpoaagreat", sum := "56968a88aa033aa1913d518783bb42fc1a02ff2653e9f6a0d511120f658a29be", func := "metronome/metronomelaw11.StreamMerges", spec := "streamMerges", inPlace := ["maps.clone"], unfollowed := true, recurses := true, plainKeys := false, apart := false }
def StreamMergesSaid : Prop := streamMergesRow.holds Tryz.pinned (OpenSpec.ofChange streamMergesSpec)

/-- ITS FALSE NEIGHBOUR: 'it returns false'. Refute it at one input. -/
def streamMergesWrong : ChangeSpec := { name := "streamMerges", fn := fun _ => fun
  | [d] => { results := [.lit (.bool false)], args := [d] }
  | _ => none }
def StreamMergesWrongFalsely : Prop := streamMergesRow.holds Tryz.pinned (OpenSpec.ofChange streamMergesWrong)

/-- 'metronomelaw11.StreamBoth': WHATEVER THE INPUT: true; the input reads as it did. -/
def streamBothSpec : ChangeSpec := { name := "streamBoth", fn := fun _ => fun
  | [d] => { results := [.lit (.bool true)], args := [d] }
  | _ => none }
def streamBothRow : OpenClaim := { program := "ytkfhjobebhdpoaagreat", sum := "56968a88aa033aa1913d518783bb42fc1a02ff2653e9f6a0d511120f658a29be", func := "metronome/metronomelaw11.StreamBoth", spec := "streamBoth", inPlace := ["maps.clone"], unfollowed := true, recurses := true, plainKeys := false, apart := false }
def StreamBothSaid : Prop := streamBothRow.holds Tryz.pinned (OpenSpec.ofChange streamBothSpec)

/-- ITS FALSE NEIGHBOUR: 'it returns false'. Refute it at one input. -/
def streamBothWrong : ChangeSpec := { name := "streamBoth", fn := fun _ => fun
  | [d] => { results := [.lit (.bool false)], args := [d] }
  | _ => none }
def StreamBothWrongFalsely : Prop := streamBothRow.holds Tryz.pinned (OpenSpec.ofChange streamBothWrong)

/- THE SECOND FORM. 'bulk': how many values and letters a reading holds, each counted each time it is reached (what is shared counts as often as it is met; a slice's spare places count too). A statement '..UptoSaid' is the law's where the arguments, and the package variables that the reading takes, are together of bulk at most 1048576: NARROWER than '..Said'. Prove '..Said' where nothing that the law and all that it calls make is longer than what came in: it says more and counts as full. Else prove '..UptoSaid'. A law counts once. -/
mutual
def uptoBulk {H : Type} : DataW H → Nat
  | .lit (.string bytes) => bytes.length + 1
  | .lit _ => 1
  | .nil => 1
  | .ptr d => uptoBulk d + 1
  | .slice elems spare => uptoBulkAll elems + uptoBulkAll spare + 1
  | .agg parts => uptoBulkAll parts + 1
  | .iface _ d => uptoBulk d + 1
  | .map entries => uptoBulkEntries entries + 1
  | .held _ => 1
def uptoBulkAll {H : Type} : List (DataW H) → Nat
  | [] => 0
  | d :: r => uptoBulk d + uptoBulkAll r
def uptoBulkEntries {H : Type} : List (Lit × DataW H) → Nat
  | [] => 0
  | x :: r => uptoBulkEntry x + uptoBulkEntries r
def uptoBulkEntry {H : Type} : Lit × DataW H → Nat
  | (.string bytes, d) => bytes.length + uptoBulk d + 1
  | (_, d) => uptoBulk d + 1
 end
def uptoSmall : (H : Type) → List (DataW H) → Bool := fun _ ds => decide (uptoBulkAll ds ≤ 1048576)
def OpenSpec.upto (s : _root_.Go.ChangeSpec) : _root_.Go.OpenSpec := { _root_.Go.OpenSpec.ofChange s with cond := some uptoSmall }

/-- 'metronomelaw11.StreamSums', WHERE WHAT IT READS IS OF BULK AT MOST 1048576: true; the input reads as it did. -/
def streamSumsUptoRow : OpenClaim := { program := "ytkfhjobebhdpoaagreat", sum := "56968a88aa033aa1913d518783bb42fc1a02ff2653e9f6a0d511120f658a29be", func := "metronome/metronomelaw11.StreamSums", spec := "streamSums", inPlace := ["maps.clone"], unfollowed := true, recurses := true, plainKeys := false, apart := false, narrowed := true }
def StreamSumsUptoSaid : Prop := streamSumsUptoRow.holds Tryz.pinned (OpenSpec.upto streamSumsSpec)

/-- 'metronomelaw11.StreamResets', WHERE WHAT IT READS IS OF BULK AT MOST 1048576: true; the input reads as it did. -/
def streamResetsUptoRow : OpenClaim := { program := "ytkfhjobebhdpoaagreat", sum := "56968a88aa033aa1913d518783bb42fc1a02ff2653e9f6a0d511120f658a29be", func := "metronome/metronomelaw11.StreamResets", spec := "streamResets", inPlace := ["maps.clone"], unfollowed := true, recurses := true, plainKeys := false, apart := false, narrowed := true }
def StreamResetsUptoSaid : Prop := streamResetsUptoRow.holds Tryz.pinned (OpenSpec.upto streamResetsSpec)

/-- 'metronomelaw11.StreamClocks', WHERE WHAT IT READS IS OF BULK AT MOST 1048576: true; the input reads as it did. -/
def streamClocksUptoRow : OpenClaim := { program := "ytkfhjobebhdpoaagreat", sum := "56968a88aa033aa1913d518783bb42fc1a02ff2653e9f6a0d511120f658a29be", func := "metronome/metronomelaw11.StreamClocks", spec := "streamClocks", inPlace := ["maps.clone"], unfollowed := true, recurses := true, plainKeys := false, apart := false, narrowed := true }
def StreamClocksUptoSaid : Prop := streamClocksUptoRow.holds Tryz.pinned (OpenSpec.upto streamClocksSpec)

/-- 'metronomelaw11.StreamAutomata', WHERE WHAT IT READS IS OF BULK AT MOST 1048576: true; the input reads as it did. -/
def streamAutomataUptoRow : OpenClaim := { program := "ytkfhjobebhdpoaagreat", sum := "56968a88aa033aa1913d518783bb42fc1a02ff2653e9f6a0d511120f658a29be", func := "metronome/metronomelaw11.StreamAutomata", spec := "streamAutomata", inPlace := ["maps.clone"], unfollowed := true, recurses := true, plainKeys := false, apart := false, narrowed := true }
def StreamAutomataUptoSaid : Prop := streamAutomataUptoRow.holds Tryz.pinned (OpenSpec.upto streamAutomataSpec)

/-- 'metronomelaw11.StreamArrays', WHERE WHAT IT READS IS OF BULK AT MOST 1048576: true; the input reads as it did. -/
def streamArraysUptoRow : OpenClaim := { program := "ytkfhjobebhdpoaagreat", sum := "56968a88aa033aa1913d518783bb42fc1a02ff2653e9f6a0d511120f658a29be", func := "metronome/metronomelaw11.StreamArrays", spec := "streamArrays", inPlace := ["maps.clone"], unfollowed := true, recurses := true, plainKeys := false, apart := false, narrowed := true }
def StreamArraysUptoSaid : Prop := streamArraysUptoRow.holds Tryz.pinned (OpenSpec.upto streamArraysSpec)

/-- 'metronomelaw11.StreamWrong', WHERE WHAT IT READS IS OF BULK AT MOST 1048576: true; the input reads as it did. -/
def streamWrongUptoRow : OpenClaim := { program := "ytkfhjobebhdpoaagreat", sum := "56968a88aa033aa1913d518783bb42fc1a02ff2653e9f6a0d511120f658a29be", func := "metronome/metronomelaw11.StreamWrong", spec := "streamWrong", inPlace := ["maps.clone"], unfollowed := true, recurses := true, plainKeys := false, apart := false, narrowed := true }
def StreamWrongUptoSaid : Prop := streamWrongUptoRow.holds Tryz.pinned (OpenSpec.upto streamWrongSpec)

/-- 'metronomelaw11.StreamDeep', WHERE WHAT IT READS IS OF BULK AT MOST 1048576: true; the input reads as it did. -/
def streamDeepUptoRow : OpenClaim := { program := "ytkfhjobebhdpoaagreat", sum := "56968a88aa033aa1913d518783bb42fc1a02ff2653e9f6a0d511120f658a29be", func := "metronome/metronomelaw11.StreamDeep", spec := "streamDeep", inPlace := ["maps.clone"], unfollowed := true, recurses := true, plainKeys := false, apart := false, narrowed := true }
def StreamDeepUptoSaid : Prop := streamDeepUptoRow.holds Tryz.pinned (OpenSpec.upto streamDeepSpec)

/-- 'metronomelaw11.StreamMerges', WHERE WHAT IT READS IS OF BULK AT MOST 1048576: true; the input reads as it did. -/
def streamMergesUptoRow : OpenClaim := { program := "ytkfhjobebhdpoaagreat", sum := "56968a88aa033aa1913d518783bb42fc1a02ff2653e9f6a0d511120f658a29be", func := "metronome/metronomelaw11.StreamMerges", spec := "streamMerges", inPlace := ["maps.clone"], unfollowed := true, recurses := true, plainKeys := false, apart := false, narrowed := true }
def StreamMergesUptoSaid : Prop := streamMergesUptoRow.holds Tryz.pinned (OpenSpec.upto streamMergesSpec)

/-- 'metronomelaw11.StreamBoth', WHERE WHAT IT READS IS OF BULK AT MOST 1048576: true; the input reads as it did. -/
def streamBothUptoRow : OpenClaim := { program := "ytkfhjobebhdpoaagreat", sum := "56968a88aa033aa1913d518783bb42fc1a02ff2653e9f6a0d511120f658a29be", func := "metronome/metronomelaw11.StreamBoth", spec := "streamBoth", inPlace := ["maps.clone"], unfollowed := true, recurses := true, plainKeys := false, apart := false, narrowed := true }
def StreamBothUptoSaid : Prop := streamBothUptoRow.holds Tryz.pinned (OpenSpec.upto streamBothSpec)

end Rows
end Go.Proofs.YtkfhjobebhdpoaaGreat

/-
  DERIVED. GIVEN WITH THE SEED: THE CARDS: each row of YtagfnjpjmmleiaaDoorRows.lean that lists a variable, with what it lists TIED to the program's text (the seventh form; the later family's looks); each row that meets fmt, with fmt's text TOLD by the authors' own Lean function (tested against real Go, not proved from fmt's source: count such statements apart). THE CARD IS WHAT COUNTS. Prove the row's statement (the work); the ties are given (YtagfnjpjmmleiaaDoorTie.lean); close each card by the builder's one call (the guide's Derived/Test/ToyasCard.lean, 'card_holds'). Laid BY PROGRAM, IN A SANDBOX (cutbox-door.mjs). By AI agents, Wed Nov 11 2026. No macro, syntax, notation, axiom, sorry.
-/
import Derived.Test.YtagfnjpjmmleiaaDoorRows
import GoSem.ClaimSeven
namespace Go.Proofs.YtagfnjpjmmleiaaDoor
namespace Rows

/-- THE TIED CARD OF 'metronomelaw24.DratChecks'. -/
def dratChecksCard : Claim7 := { stood := { row := dratChecksRow, standIns := [], harness := (true, "f7c6a09deb85292f0f7a4f3d481fbefc0cf33c9511ab3048a5989890288a003a"), looks := false }, kinds := [], alts := [], laidByText := true, laidKinds := [.data, .data, .data], laidTests := true, laidLooks := .later }
def DratChecksCardSaid : Prop := Claim7.holds Tryd.pinned (.plain (OpenSpec.ofChange dratChecksSpec)) dratChecksCard

/-- THE TIED CARD OF 'metronomelaw24.DratImplied'. -/
def dratImpliedCard : Claim7 := { stood := { row := dratImpliedRow, standIns := [], harness := (true, "f7c6a09deb85292f0f7a4f3d481fbefc0cf33c9511ab3048a5989890288a003a"), looks := false }, kinds := [], alts := [], laidByText := true, laidKinds := [.data, .data, .data], laidTests := true, laidLooks := .later }
def DratImpliedCardSaid : Prop := Claim7.holds Tryd.pinned (.plain (OpenSpec.ofChange dratImpliedSpec)) dratImpliedCard

/-- THE TIED CARD OF 'metronomelaw24.DratSound'. -/
def dratSoundCard : Claim7 := { stood := { row := dratSoundRow, standIns := [], harness := (true, "f7c6a09deb85292f0f7a4f3d481fbefc0cf33c9511ab3048a5989890288a003a"), looks := false }, kinds := [], alts := [], laidByText := true, laidKinds := [.data, .data, .data], laidTests := true, laidLooks := .later }
def DratSoundCardSaid : Prop := Claim7.holds Tryd.pinned (.plain (OpenSpec.ofChange dratSoundSpec)) dratSoundCard

/-- THE TIED CARD OF 'metronomelaw24.DratAll'. -/
def dratAllCard : Claim7 := { stood := { row := dratAllRow, standIns := [], harness := (true, "f7c6a09deb85292f0f7a4f3d481fbefc0cf33c9511ab3048a5989890288a003a"), looks := false }, kinds := [], alts := [], laidByText := true, laidKinds := [.data, .data, .data], laidTests := true, laidLooks := .later }
def DratAllCardSaid : Prop := Claim7.holds Tryd.pinned (.plain (OpenSpec.ofChange dratAllSpec)) dratAllCard

/-- THE TIED CARD OF 'metronomelaw24.DratGone'. -/
def dratGoneCard : Claim7 := { stood := { row := dratGoneRow, standIns := [], harness := (true, "f7c6a09deb85292f0f7a4f3d481fbefc0cf33c9511ab3048a5989890288a003a"), looks := false }, kinds := [], alts := [], laidByText := true, laidKinds := [.data, .data, .data], laidTests := true, laidLooks := .later }
def DratGoneCardSaid : Prop := Claim7.holds Tryd.pinned (.plain (OpenSpec.ofChange dratGoneSpec)) dratGoneCard

/-- THE SECOND FORM's CARD OF 'metronomelaw24.DratChecks'. -/
def dratChecksUptoCard : Claim7 := { stood := { row := dratChecksUptoRow, standIns := [], harness := (true, "f7c6a09deb85292f0f7a4f3d481fbefc0cf33c9511ab3048a5989890288a003a"), looks := false }, kinds := [], alts := [], laidByText := true, laidKinds := [.data, .data, .data], laidTests := true, laidLooks := .later }
def DratChecksUptoCardSaid : Prop := Claim7.holds Tryd.pinned (.plain (OpenSpec.upto dratChecksSpec)) dratChecksUptoCard

/-- THE SECOND FORM's CARD OF 'metronomelaw24.DratImplied'. -/
def dratImpliedUptoCard : Claim7 := { stood := { row := dratImpliedUptoRow, standIns := [], harness := (true, "f7c6a09deb85292f0f7a4f3d481fbefc0cf33c9511ab3048a5989890288a003a"), looks := false }, kinds := [], alts := [], laidByText := true, laidKinds := [.data, .data, .data], laidTests := true, laidLooks := .later }
def DratImpliedUptoCardSaid : Prop := Claim7.holds Tryd.pinned (.plain (OpenSpec.upto dratImpliedSpec)) dratImpliedUptoCard

/-- THE SECOND FORM's CARD OF 'metronomelaw24.DratSound'. -/
def dratSoundUptoCard : Claim7 := { stood := { row := dratSoundUptoRow, standIns := [], harness := (true, "f7c6a09deb85292f0f7a4f3d481fbefc0cf33c9511ab3048a5989890288a003a"), looks := false }, kinds := [], alts := [], laidByText := true, laidKinds := [.data, .data, .data], laidTests := true, laidLooks := .later }
def DratSoundUptoCardSaid : Prop := Claim7.holds Tryd.pinned (.plain (OpenSpec.upto dratSoundSpec)) dratSoundUptoCard

/-- THE SECOND FORM's CARD OF 'metronomelaw24.DratAll'. -/
def dratAllUptoCard : Claim7 := { stood := { row := dratAllUptoRow, standIns := [], harness := (true, "f7c6a09deb85292f0f7a4f3d481fbefc0cf33c9511ab3048a5989890288a003a"), looks := false }, kinds := [], alts := [], laidByText := true, laidKinds := [.data, .data, .data], laidTests := true, laidLooks := .later }
def DratAllUptoCardSaid : Prop := Claim7.holds Tryd.pinned (.plain (OpenSpec.upto dratAllSpec)) dratAllUptoCard

/-- THE SECOND FORM's CARD OF 'metronomelaw24.DratGone'. -/
def dratGoneUptoCard : Claim7 := { stood := { row := dratGoneUptoRow, standIns := [], harness := (true, "f7c6a09deb85292f0f7a4f3d481fbefc0cf33c9511ab3048a5989890288a003a"), looks := false }, kinds := [], alts := [], laidByText := true, laidKinds := [.data, .data, .data], laidTests := true, laidLooks := .later }
def DratGoneUptoCardSaid : Prop := Claim7.holds Tryd.pinned (.plain (OpenSpec.upto dratGoneSpec)) dratGoneUptoCard
end Rows
end Go.Proofs.YtagfnjpjmmleiaaDoor

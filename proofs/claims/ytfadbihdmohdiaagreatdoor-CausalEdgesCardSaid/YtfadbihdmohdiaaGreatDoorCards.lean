/-
  DERIVED. GIVEN WITH THE SEED: THE CARDS: each row of YtfadbihdmohdiaaGreatDoorRows.lean that lists a variable, with what it lists TIED to the program's text (the seventh form; the later family's looks); each row that meets fmt, with fmt's text TOLD by the authors' own Lean function (tested against real Go, not proved from fmt's source: count such statements apart). THE CARD IS WHAT COUNTS. Prove the row's statement (the work); the ties are given (YtfadbihdmohdiaaGreatDoorTie.lean); close each card by the builder's one call (the guide's Derived/Test/ToyasCard.lean, 'card_holds'). Laid BY PROGRAM, IN A SANDBOX (cutbox-door.mjs). By AI agents, Wed Nov 11 2026. No macro, syntax, notation, axiom, sorry.
-/
import Derived.Test.YtfadbihdmohdiaaGreatDoorRows
import GoSem.ClaimSeven
namespace Go.Proofs.YtfadbihdmohdiaaGreatDoor
namespace Rows

/-- THE TIED CARD OF 'osierlaw08.CausalReady'. -/
def causalReadyCard : Claim7 := { stood := { row := causalReadyRow, standIns := [], harness := (true, "9fa27894cf51c99e4b46c935c9654d9e81a6372340474da77aa6f06082049d99"), looks := false }, kinds := [], alts := [], laidByText := true, laidKinds := [.data, .pinned], laidTests := true, laidLooks := .later }
def CausalReadyCardSaid : Prop := Claim7.holds Tryz.pinned (.plain (OpenSpec.ofChange causalReadySpec)) causalReadyCard

/-- THE TIED CARD OF 'osierlaw08.CausalOrder'. -/
def causalOrderCard : Claim7 := { stood := { row := causalOrderRow, standIns := [], harness := (true, "9fa27894cf51c99e4b46c935c9654d9e81a6372340474da77aa6f06082049d99"), looks := false }, kinds := [], alts := [], laidByText := true, laidKinds := [.data, .pinned], laidTests := true, laidLooks := .later }
def CausalOrderCardSaid : Prop := Claim7.holds Tryz.pinned (.plain (OpenSpec.ofChange causalOrderSpec)) causalOrderCard

/-- THE TIED CARD OF 'osierlaw08.CausalTurned'. -/
def causalTurnedCard : Claim7 := { stood := { row := causalTurnedRow, standIns := [], harness := (true, "9fa27894cf51c99e4b46c935c9654d9e81a6372340474da77aa6f06082049d99"), looks := false }, kinds := [], alts := [], laidByText := true, laidKinds := [.data, .pinned], laidTests := true, laidLooks := .later }
def CausalTurnedCardSaid : Prop := Claim7.holds Tryz.pinned (.plain (OpenSpec.ofChange causalTurnedSpec)) causalTurnedCard

/-- THE TIED CARD OF 'osierlaw08.CausalEdges'. -/
def causalEdgesCard : Claim7 := { stood := { row := causalEdgesRow, standIns := [], harness := (true, "9fa27894cf51c99e4b46c935c9654d9e81a6372340474da77aa6f06082049d99"), looks := false }, kinds := [], alts := [], laidByText := true, laidKinds := [.data, .pinned], laidTests := true, laidLooks := .later }
def CausalEdgesCardSaid : Prop := Claim7.holds Tryz.pinned (.plain (OpenSpec.ofChange causalEdgesSpec)) causalEdgesCard

/-- THE SECOND FORM's CARD OF 'osierlaw08.CausalReady'. -/
def causalReadyUptoCard : Claim7 := { stood := { row := causalReadyUptoRow, standIns := [], harness := (true, "9fa27894cf51c99e4b46c935c9654d9e81a6372340474da77aa6f06082049d99"), looks := false }, kinds := [], alts := [], laidByText := true, laidKinds := [.data, .pinned], laidTests := true, laidLooks := .later }
def CausalReadyUptoCardSaid : Prop := Claim7.holds Tryz.pinned (.plain (OpenSpec.upto causalReadySpec)) causalReadyUptoCard

/-- THE SECOND FORM's CARD OF 'osierlaw08.CausalOrder'. -/
def causalOrderUptoCard : Claim7 := { stood := { row := causalOrderUptoRow, standIns := [], harness := (true, "9fa27894cf51c99e4b46c935c9654d9e81a6372340474da77aa6f06082049d99"), looks := false }, kinds := [], alts := [], laidByText := true, laidKinds := [.data, .pinned], laidTests := true, laidLooks := .later }
def CausalOrderUptoCardSaid : Prop := Claim7.holds Tryz.pinned (.plain (OpenSpec.upto causalOrderSpec)) causalOrderUptoCard

/-- THE SECOND FORM's CARD OF 'osierlaw08.CausalTurned'. -/
def causalTurnedUptoCard : Claim7 := { stood := { row := causalTurnedUptoRow, standIns := [], harness := (true, "9fa27894cf51c99e4b46c935c9654d9e81a6372340474da77aa6f06082049d99"), looks := false }, kinds := [], alts := [], laidByText := true, laidKinds := [.data, .pinned], laidTests := true, laidLooks := .later }
def CausalTurnedUptoCardSaid : Prop := Claim7.holds Tryz.pinned (.plain (OpenSpec.upto causalTurnedSpec)) causalTurnedUptoCard

/-- THE SECOND FORM's CARD OF 'osierlaw08.CausalEdges'. -/
def causalEdgesUptoCard : Claim7 := { stood := { row := causalEdgesUptoRow, standIns := [], harness := (true, "9fa27894cf51c99e4b46c935c9654d9e81a6372340474da77aa6f06082049d99"), looks := false }, kinds := [], alts := [], laidByText := true, laidKinds := [.data, .pinned], laidTests := true, laidLooks := .later }
def CausalEdgesUptoCardSaid : Prop := Claim7.holds Tryz.pinned (.plain (OpenSpec.upto causalEdgesSpec)) causalEdgesUptoCard
end Rows
end Go.Proofs.YtfadbihdmohdiaaGreatDoor

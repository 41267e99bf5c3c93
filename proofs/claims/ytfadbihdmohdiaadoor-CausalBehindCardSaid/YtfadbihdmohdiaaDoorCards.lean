/-
  DERIVED. GIVEN WITH THE SEED: THE CARDS: each row of YtfadbihdmohdiaaDoorRows.lean that lists a variable, with what it lists TIED to the program's text (the seventh form; the later family's looks); each row that meets fmt, with fmt's text TOLD by the authors' own Lean function (tested against real Go, not proved from fmt's source: count such statements apart). THE CARD IS WHAT COUNTS. Prove the row's statement (the work); the ties are given (YtfadbihdmohdiaaDoorTie.lean); close each card by the builder's one call (the guide's Derived/Test/ToyasCard.lean, 'card_holds'). Laid BY PROGRAM, IN A SANDBOX (cutbox-door.mjs). By AI agents, Wed Nov 11 2026. No macro, syntax, notation, axiom, sorry.
-/
import Derived.Test.YtfadbihdmohdiaaDoorRows
import GoSem.ClaimSeven
namespace Go.Proofs.YtfadbihdmohdiaaDoor
namespace Rows

/-- THE TIED CARD OF 'osierlaw07.OpsCheck'. -/
def opsCheckCard : Claim7 := { stood := { row := opsCheckRow, standIns := [], harness := (true, "ee77e28979b90fe2351df2660a370684bee302d8b77cc1470207eff575b4dd9c"), looks := false }, kinds := [], alts := [], laidByText := true, laidKinds := [.data, .pinned], laidTests := true, laidLooks := .later }
def OpsCheckCardSaid : Prop := Claim7.holds Tryd.pinned (.plain (OpenSpec.ofChange opsCheckSpec)) opsCheckCard

/-- THE TIED CARD OF 'osierlaw07.OpsBytes'. -/
def opsBytesCard : Claim7 := { stood := { row := opsBytesRow, standIns := [], harness := (true, "ee77e28979b90fe2351df2660a370684bee302d8b77cc1470207eff575b4dd9c"), looks := false }, kinds := [], alts := [], laidByText := true, laidKinds := [.data, .pinned], laidTests := true, laidLooks := .later }
def OpsBytesCardSaid : Prop := Claim7.holds Tryd.pinned (.plain (OpenSpec.ofChange opsBytesSpec)) opsBytesCard

/-- THE TIED CARD OF 'osierlaw07.OpsTake'. -/
def opsTakeCard : Claim7 := { stood := { row := opsTakeRow, standIns := [], harness := (true, "ee77e28979b90fe2351df2660a370684bee302d8b77cc1470207eff575b4dd9c"), looks := false }, kinds := [], alts := [], laidByText := true, laidKinds := [.data, .pinned], laidTests := true, laidLooks := .later }
def OpsTakeCardSaid : Prop := Claim7.holds Tryd.pinned (.plain (OpenSpec.ofChange opsTakeSpec)) opsTakeCard

/-- THE TIED CARD OF 'osierlaw07.OpsOne'. -/
def opsOneCard : Claim7 := { stood := { row := opsOneRow, standIns := [], harness := (true, "ee77e28979b90fe2351df2660a370684bee302d8b77cc1470207eff575b4dd9c"), looks := false }, kinds := [], alts := [], laidByText := true, laidKinds := [.data, .pinned], laidTests := true, laidLooks := .later }
def OpsOneCardSaid : Prop := Claim7.holds Tryd.pinned (.plain (OpenSpec.ofChange opsOneSpec)) opsOneCard

/-- THE TIED CARD OF 'osierlaw07.OpsLean'. -/
def opsLeanCard : Claim7 := { stood := { row := opsLeanRow, standIns := [], harness := (true, "ee77e28979b90fe2351df2660a370684bee302d8b77cc1470207eff575b4dd9c"), looks := false }, kinds := [], alts := [], laidByText := true, laidKinds := [.data, .pinned], laidTests := true, laidLooks := .later }
def OpsLeanCardSaid : Prop := Claim7.holds Tryd.pinned (.plain (OpenSpec.ofChange opsLeanSpec)) opsLeanCard

/-- THE TIED CARD OF 'osierlaw08.CausalBehind'. -/
def causalBehindCard : Claim7 := { stood := { row := causalBehindRow, standIns := [], harness := (true, "ee77e28979b90fe2351df2660a370684bee302d8b77cc1470207eff575b4dd9c"), looks := false }, kinds := [], alts := [], laidByText := true, laidKinds := [.data, .pinned], laidTests := true, laidLooks := .later }
def CausalBehindCardSaid : Prop := Claim7.holds Tryd.pinned (.plain (OpenSpec.ofChange causalBehindSpec)) causalBehindCard

/-- THE SECOND FORM's CARD OF 'osierlaw07.OpsCheck'. -/
def opsCheckUptoCard : Claim7 := { stood := { row := opsCheckUptoRow, standIns := [], harness := (true, "ee77e28979b90fe2351df2660a370684bee302d8b77cc1470207eff575b4dd9c"), looks := false }, kinds := [], alts := [], laidByText := true, laidKinds := [.data, .pinned], laidTests := true, laidLooks := .later }
def OpsCheckUptoCardSaid : Prop := Claim7.holds Tryd.pinned (.plain (OpenSpec.upto opsCheckSpec)) opsCheckUptoCard

/-- THE SECOND FORM's CARD OF 'osierlaw07.OpsBytes'. -/
def opsBytesUptoCard : Claim7 := { stood := { row := opsBytesUptoRow, standIns := [], harness := (true, "ee77e28979b90fe2351df2660a370684bee302d8b77cc1470207eff575b4dd9c"), looks := false }, kinds := [], alts := [], laidByText := true, laidKinds := [.data, .pinned], laidTests := true, laidLooks := .later }
def OpsBytesUptoCardSaid : Prop := Claim7.holds Tryd.pinned (.plain (OpenSpec.upto opsBytesSpec)) opsBytesUptoCard

/-- THE SECOND FORM's CARD OF 'osierlaw07.OpsTake'. -/
def opsTakeUptoCard : Claim7 := { stood := { row := opsTakeUptoRow, standIns := [], harness := (true, "ee77e28979b90fe2351df2660a370684bee302d8b77cc1470207eff575b4dd9c"), looks := false }, kinds := [], alts := [], laidByText := true, laidKinds := [.data, .pinned], laidTests := true, laidLooks := .later }
def OpsTakeUptoCardSaid : Prop := Claim7.holds Tryd.pinned (.plain (OpenSpec.upto opsTakeSpec)) opsTakeUptoCard

/-- THE SECOND FORM's CARD OF 'osierlaw07.OpsOne'. -/
def opsOneUptoCard : Claim7 := { stood := { row := opsOneUptoRow, standIns := [], harness := (true, "ee77e28979b90fe2351df2660a370684bee302d8b77cc1470207eff575b4dd9c"), looks := false }, kinds := [], alts := [], laidByText := true, laidKinds := [.data, .pinned], laidTests := true, laidLooks := .later }
def OpsOneUptoCardSaid : Prop := Claim7.holds Tryd.pinned (.plain (OpenSpec.upto opsOneSpec)) opsOneUptoCard

/-- THE SECOND FORM's CARD OF 'osierlaw07.OpsLean'. -/
def opsLeanUptoCard : Claim7 := { stood := { row := opsLeanUptoRow, standIns := [], harness := (true, "ee77e28979b90fe2351df2660a370684bee302d8b77cc1470207eff575b4dd9c"), looks := false }, kinds := [], alts := [], laidByText := true, laidKinds := [.data, .pinned], laidTests := true, laidLooks := .later }
def OpsLeanUptoCardSaid : Prop := Claim7.holds Tryd.pinned (.plain (OpenSpec.upto opsLeanSpec)) opsLeanUptoCard

/-- THE SECOND FORM's CARD OF 'osierlaw08.CausalBehind'. -/
def causalBehindUptoCard : Claim7 := { stood := { row := causalBehindUptoRow, standIns := [], harness := (true, "ee77e28979b90fe2351df2660a370684bee302d8b77cc1470207eff575b4dd9c"), looks := false }, kinds := [], alts := [], laidByText := true, laidKinds := [.data, .pinned], laidTests := true, laidLooks := .later }
def CausalBehindUptoCardSaid : Prop := Claim7.holds Tryd.pinned (.plain (OpenSpec.upto causalBehindSpec)) causalBehindUptoCard
end Rows
end Go.Proofs.YtfadbihdmohdiaaDoor

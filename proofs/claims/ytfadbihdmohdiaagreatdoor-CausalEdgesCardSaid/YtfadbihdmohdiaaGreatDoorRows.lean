/-
  NARROWER THAN 'FOR EVERY INPUT', by the rows' own cells (each row's printed sentence says how): CausalReady: laid · CausalOrder: laid · CausalTurned: laid · CausalEdges: laid.
  DERIVED. THE GIVEN ROWS OF THIS SEAT. 4 by the template 'for every input the law returns true; each argument reads behind the call as it read before'; 0 by the template 'total and deterministic' (their statements: YtfadbihdmohdiaaGreatDoorTotals.lean).
  GIVEN WITH THE SEED: the statements are not yours to turn. If you find one false, say at which input.
  Laid BY PROGRAM, IN A SANDBOX (cutbox-rows.mjs): the forced cells as the released guide's own fill.sh prints them over the translation e91629e01d79ef93… (all of the seat's roots in one cut). By AI agents, Wed Nov 11 2026. No macro, syntax, notation, axiom, sorry.
-/
import Derived.Test.YtfadbihdmohdiaaGreatDoorChecked
import GoSem.PinnedTables
import GoSem.Claim
import GoSem.ClaimJoined
import GoSem.ClaimMapViews
import Derived.JoinedTies
import Derived.KernelRfl
namespace Go.Proofs.YtfadbihdmohdiaaGreatDoor
/- THE CELL 'sum', in the pinned program and in every row, IS THE sha256 OF THE DUMP (.gsa) THAT YtfadbihdmohdiaaGreatDoorProg.lean LOADS. Nothing in Lean hashes anything: it is a label: what it is worth is what the hold of that sum in a sandbox is worth. -/
noncomputable def Tryz.pinned : Pinned := { name := "ytfadbihdmohdiaagreatdoor", sum := "e91629e01d79ef9350700cef086e16255a7f1a89a98c8ce9ef341fac9c44752b", checked := Tryz.checked }
namespace Rows
def none {H : Type} : Left H := { results := [], args := [] }

/- WHAT THE LISTED PACKAGE-LEVEL VARIABLES READ AS WHEN THE CALL BEGINS. Each datum BY PROGRAM (the guide's laid-datum.mjs) off the statement by which the dump's own 'gosem.cut.vars' lays the variable. In a bare row this is a premise. The card (YtfadbihdmohdiaaGreatDoorCards.lean) ties it to the program's text. -/
def laid_unicode_utf8_acceptRanges {H : Type} : DataW H := .agg [.agg [.lit (.int .u8 128), .lit (.int .u8 191)], .agg [.lit (.int .u8 160), .lit (.int .u8 191)], .agg [.lit (.int .u8 128), .lit (.int .u8 159)], .agg [.lit (.int .u8 144), .lit (.int .u8 191)], .agg [.lit (.int .u8 128), .lit (.int .u8 143)], .agg [.lit (.int .u8 0), .lit (.int .u8 0)], .agg [.lit (.int .u8 0), .lit (.int .u8 0)], .agg [.lit (.int .u8 0), .lit (.int .u8 0)], .agg [.lit (.int .u8 0), .lit (.int .u8 0)], .agg [.lit (.int .u8 0), .lit (.int .u8 0)], .agg [.lit (.int .u8 0), .lit (.int .u8 0)], .agg [.lit (.int .u8 0), .lit (.int .u8 0)], .agg [.lit (.int .u8 0), .lit (.int .u8 0)], .agg [.lit (.int .u8 0), .lit (.int .u8 0)], .agg [.lit (.int .u8 0), .lit (.int .u8 0)], .agg [.lit (.int .u8 0), .lit (.int .u8 0)]]
/-- One of Go's own tables, pinned by name: the form's constant. -/
def laid_unicode_utf8_first : DataW Unit := Go.Pinned.utf8First

/-- 'osierlaw08.CausalReady': WHATEVER THE INPUT: true; the input reads as it did. -/
def causalReadySpec : ChangeSpec := { name := "causalReady", fn := fun _ => fun
  | [d1, d2] => { results := [.lit (.bool true)], args := [d1, d2] }
  | _ => none }
def causalReadyRow : OpenClaim := { program := "ytfadbihdmohdiaagreatdoor", sum := "e91629e01d79ef9350700cef086e16255a7f1a89a98c8ce9ef341fac9c44752b", func := "osier/osierlaw08.CausalReady", spec := "causalReady", inPlace := ["internal/bytealg.IndexByteString", "internal/bytealg.IndexString"], unfollowed := true, recurses := true, named := ["unicode/utf8.first", "unicode/utf8.acceptRanges", "internal/bytealg.MaxLen"], plainKeys := false, apart := false, laid := [("unicode/utf8.acceptRanges", laid_unicode_utf8_acceptRanges), ("unicode/utf8.first", laid_unicode_utf8_first)] }
def CausalReadySaid : Prop := causalReadyRow.holds Tryz.pinned (OpenSpec.ofChange causalReadySpec)

/-- ITS FALSE NEIGHBOUR: 'it returns false'. Refute it at one input. -/
def causalReadyWrong : ChangeSpec := { name := "causalReady", fn := fun _ => fun
  | [d1, d2] => { results := [.lit (.bool false)], args := [d1, d2] }
  | _ => none }
def CausalReadyWrongFalsely : Prop := causalReadyRow.holds Tryz.pinned (OpenSpec.ofChange causalReadyWrong)

/-- 'osierlaw08.CausalOrder': WHATEVER THE INPUT: true; the input reads as it did. -/
def causalOrderSpec : ChangeSpec := { name := "causalOrder", fn := fun _ => fun
  | [d] => { results := [.lit (.bool true)], args := [d] }
  | _ => none }
def causalOrderRow : OpenClaim := { program := "ytfadbihdmohdiaagreatdoor", sum := "e91629e01d79ef9350700cef086e16255a7f1a89a98c8ce9ef341fac9c44752b", func := "osier/osierlaw08.CausalOrder", spec := "causalOrder", inPlace := ["internal/bytealg.IndexByteString", "internal/bytealg.IndexString"], unfollowed := true, recurses := true, named := ["unicode/utf8.first", "unicode/utf8.acceptRanges", "internal/bytealg.MaxLen"], plainKeys := false, apart := false, laid := [("unicode/utf8.acceptRanges", laid_unicode_utf8_acceptRanges), ("unicode/utf8.first", laid_unicode_utf8_first)] }
def CausalOrderSaid : Prop := causalOrderRow.holds Tryz.pinned (OpenSpec.ofChange causalOrderSpec)

/-- ITS FALSE NEIGHBOUR: 'it returns false'. Refute it at one input. -/
def causalOrderWrong : ChangeSpec := { name := "causalOrder", fn := fun _ => fun
  | [d] => { results := [.lit (.bool false)], args := [d] }
  | _ => none }
def CausalOrderWrongFalsely : Prop := causalOrderRow.holds Tryz.pinned (OpenSpec.ofChange causalOrderWrong)

/-- 'osierlaw08.CausalTurned': WHATEVER THE INPUT: true; the input reads as it did. -/
def causalTurnedSpec : ChangeSpec := { name := "causalTurned", fn := fun _ => fun
  | [d1, d2] => { results := [.lit (.bool true)], args := [d1, d2] }
  | _ => none }
def causalTurnedRow : OpenClaim := { program := "ytfadbihdmohdiaagreatdoor", sum := "e91629e01d79ef9350700cef086e16255a7f1a89a98c8ce9ef341fac9c44752b", func := "osier/osierlaw08.CausalTurned", spec := "causalTurned", inPlace := ["internal/bytealg.IndexByteString", "internal/bytealg.IndexString"], unfollowed := true, recurses := true, named := ["unicode/utf8.first", "unicode/utf8.acceptRanges", "internal/bytealg.MaxLen"], plainKeys := false, apart := false, laid := [("unicode/utf8.acceptRanges", laid_unicode_utf8_acceptRanges), ("unicode/utf8.first", laid_unicode_utf8_first)] }
def CausalTurnedSaid : Prop := causalTurnedRow.holds Tryz.pinned (OpenSpec.ofChange causalTurnedSpec)

/-- ITS FALSE NEIGHBOUR: 'it returns false'. Refute it at one input. -/
def causalTurnedWrong : ChangeSpec := { name := "causalTurned", fn := fun _ => fun
  | [d1, d2] => { results := [.lit (.bool false)], args := [d1, d2] }
  | _ => none }
def CausalTurnedWrongFalsely : Prop := causalTurnedRow.holds Tryz.pinned (OpenSpec.ofChange causalTurnedWrong)

/-- 'osierlaw08.CausalEdges': WHATEVER THE INPUT: true; the input reads as it did. -/
def causalEdgesSpec : ChangeSpec := { name := "causalEdges", fn := fun _ => fun
  | [d] => { results := [.lit (.bool true)], args := [d] }
  | _ => none }
def causalEdgesRow : OpenClaim := { program := "ytfadbihdmohdiaagreatdoor", sum := "e91629e01d79ef9350700cef086e16255a7f1a89a98c8ce9ef341fac9c44752b", func := "osier/osierlaw08.CausalEdges", spec := "causalEdges", inPlace := ["internal/bytealg.IndexByteString", "internal/bytealg.IndexString"], unfollowed := true, recurses := true, named := ["unicode/utf8.first", "unicode/utf8.acceptRanges", "internal/bytealg.MaxLen"], plainKeys := false, apart := false, laid := [("unicode/utf8.acceptRanges", laid_unicode_utf8_acceptRanges), ("unicode/utf8.first", laid_unicode_utf8_first)] }
def CausalEdgesSaid : Prop := causalEdgesRow.holds Tryz.pinned (OpenSpec.ofChange causalEdgesSpec)

/-- ITS FALSE NEIGHBOUR: 'it returns false'. Refute it at one input. -/
def causalEdgesWrong : ChangeSpec := { name := "causalEdges", fn := fun _ => fun
  | [d] => { results := [.lit (.bool false)], args := [d] }
  | _ => none }
def CausalEdgesWrongFalsely : Prop := causalEdgesRow.holds Tryz.pinned (OpenSpec.ofChange causalEdgesWrong)

/- THE SECOND FORM. 'bulk': how many values and letters a reading holds, each counted each time it is reached (what is shared counts as often as it is met; a slice's spare places count too). A statement '..UptoSaid' is the law's where the arguments, and the package variables that the reading takes, are together of bulk at most 1048576: NARROWER than '..Said'. Prove '..Said' where nothing that the law and all that it calls make is longer than what came in: it says more and counts as full. Else prove '..UptoSaid'. A law counts once. -/
mutual
def uptoBulk {H : Type} : DataW H → Nat
  | .lit (.string bytes) => bytes.length + 1
  | .lit _ => 1
  | .nil => 1
  | .ptr d => uptoBulk d + 1
  | .slice elems spare => uptoBulkAll elems + uptoBulkAll spare + 1
  | .agg parts => uptoBulkAll parts + 1
  | .iface _ d => uptoBulk d + 1
  | .map entries => uptoBulkEntries entries + 1
  | .held _ => 1
def uptoBulkAll {H : Type} : List (DataW H) → Nat
  | [] => 0
  | d :: r => uptoBulk d + uptoBulkAll r
def uptoBulkEntries {H : Type} : List (Lit × DataW H) → Nat
  | [] => 0
  | x :: r => uptoBulkEntry x + uptoBulkEntries r
def uptoBulkEntry {H : Type} : Lit × DataW H → Nat
  | (.string bytes, d) => bytes.length + uptoBulk d + 1
  | (_, d) => uptoBulk d + 1
 end
def uptoSmall : (H : Type) → List (DataW H) → Bool := fun _ ds => decide (uptoBulkAll ds ≤ 1048576)
def OpenSpec.upto (s : _root_.Go.ChangeSpec) : _root_.Go.OpenSpec := { _root_.Go.OpenSpec.ofChange s with cond := some uptoSmall }

/-- 'osierlaw08.CausalReady', WHERE WHAT IT READS IS OF BULK AT MOST 1048576: true; the input reads as it did. -/
def causalReadyUptoRow : OpenClaim := { program := "ytfadbihdmohdiaagreatdoor", sum := "e91629e01d79ef9350700cef086e16255a7f1a89a98c8ce9ef341fac9c44752b", func := "osier/osierlaw08.CausalReady", spec := "causalReady", inPlace := ["internal/bytealg.IndexByteString", "internal/bytealg.IndexString"], unfollowed := true, recurses := true, named := ["unicode/utf8.first", "unicode/utf8.acceptRanges", "internal/bytealg.MaxLen"], plainKeys := false, apart := false, laid := [("unicode/utf8.acceptRanges", laid_unicode_utf8_acceptRanges), ("unicode/utf8.first", laid_unicode_utf8_first)], narrowed := true }
def CausalReadyUptoSaid : Prop := causalReadyUptoRow.holds Tryz.pinned (OpenSpec.upto causalReadySpec)

/-- 'osierlaw08.CausalOrder', WHERE WHAT IT READS IS OF BULK AT MOST 1048576: true; the input reads as it did. -/
def causalOrderUptoRow : OpenClaim := { program := "ytfadbihdmohdiaagreatdoor", sum := "e91629e01d79ef9350700cef086e16255a7f1a89a98c8ce9ef341fac9c44752b", func := "osier/osierlaw08.CausalOrder", spec := "causalOrder", inPlace := ["internal/bytealg.IndexByteString", "internal/bytealg.IndexString"], unfollowed := true, recurses := true, named := ["unicode/utf8.first", "unicode/utf8.acceptRanges", "internal/bytealg.MaxLen"], plainKeys := false, apart := false, laid := [("unicode/utf8.acceptRanges", laid_unicode_utf8_acceptRanges), ("unicode/utf8.first", laid_unicode_utf8_first)], narrowed := true }
def CausalOrderUptoSaid : Prop := causalOrderUptoRow.holds Tryz.pinned (OpenSpec.upto causalOrderSpec)

/-- 'osierlaw08.CausalTurned', WHERE WHAT IT READS IS OF BULK AT MOST 1048576: true; the input reads as it did. -/
def causalTurnedUptoRow : OpenClaim := { program := "ytfadbihdmohdiaagreatdoor", sum := "e91629e01d79ef9350700cef086e16255a7f1a89a98c8ce9ef341fac9c44752b", func := "osier/osierlaw08.CausalTurned", spec := "causalTurned", inPlace := ["internal/bytealg.IndexByteString", "internal/bytealg.IndexString"], unfollowed := true, recurses := true, named := ["unicode/utf8.first", "unicode/utf8.acceptRanges", "internal/bytealg.MaxLen"], plainKeys := false, apart := false, laid := [("unicode/utf8.acceptRanges", laid_unicode_utf8_acceptRanges), ("unicode/utf8.first", laid_unicode_utf8_first)], narrowed := true }
def CausalTurnedUptoSaid : Prop := causalTurnedUptoRow.holds Tryz.pinned (OpenSpec.upto causalTurnedSpec)

/-- 'osierlaw08.CausalEdges', WHERE WHAT IT READS IS OF BULK AT MOST 1048576: true; the input reads as it did. -/
def causalEdgesUptoRow : OpenClaim := { program := "ytfadbihdmohdiaagreatdoor", sum := "e91629e01d79ef9350700cef086e16255a7f1a89a98c8ce9ef341fac9c44752b", func := "osier/osierlaw08.CausalEdges", spec := "causalEdges", inPlace := ["internal/bytealg.IndexByteString", "internal/bytealg.IndexString"], unfollowed := true, recurses := true, named := ["unicode/utf8.first", "unicode/utf8.acceptRanges", "internal/bytealg.MaxLen"], plainKeys := false, apart := false, laid := [("unicode/utf8.acceptRanges", laid_unicode_utf8_acceptRanges), ("unicode/utf8.first", laid_unicode_utf8_first)], narrowed := true }
def CausalEdgesUptoSaid : Prop := causalEdgesUptoRow.holds Tryz.pinned (OpenSpec.upto causalEdgesSpec)

end Rows
end Go.Proofs.YtfadbihdmohdiaaGreatDoor

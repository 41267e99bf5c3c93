/-
  NARROWER THAN 'FOR EVERY INPUT', by the rows' own cells (each row's printed sentence says how): OpsCheck: laid · OpsBytes: laid · OpsTake: laid · OpsOne: laid · OpsLean: laid · CausalBehind: laid.
  DERIVED. THE GIVEN ROWS OF THIS SEAT. 6 by the template 'for every input the law returns true; each argument reads behind the call as it read before'; 0 by the template 'total and deterministic' (their statements: YtfadbihdmohdiaaDoorTotals.lean).
  GIVEN WITH THE SEED: the statements are not yours to turn. If you find one false, say at which input.
  Laid BY PROGRAM, IN A SANDBOX (cutbox-rows.mjs): the forced cells as the released guide's own fill.sh prints them over the translation 7762aa54fd4cbc4a… (all of the seat's roots in one cut). By AI agents, Wed Nov 11 2026. No macro, syntax, notation, axiom, sorry.
-/
import Derived.Test.YtfadbihdmohdiaaDoorChecked
import GoSem.PinnedTables
import GoSem.Claim
import GoSem.ClaimJoined
import GoSem.ClaimMapViews
import Derived.JoinedTies
import Derived.KernelRfl
namespace Go.Proofs.YtfadbihdmohdiaaDoor
/- THE CELL 'sum', in the pinned program and in every row, IS THE sha256 OF THE DUMP (.gsa) THAT YtfadbihdmohdiaaDoorProg.lean LOADS. Nothing in Lean hashes anything: it is a label: what it is worth is what the hold of that sum in a sandbox is worth. -/
noncomputable def Tryd.pinned : Pinned := { name := "ytfadbihdmohdiaadoor", sum := "7762aa54fd4cbc4a591d8d685a095c6ae593bcac06b941d1f1e5f8ad9dfee308", checked := Tryd.checked }
namespace Rows
def none {H : Type} : Left H := { results := [], args := [] }

/- WHAT THE LISTED PACKAGE-LEVEL VARIABLES READ AS WHEN THE CALL BEGINS. Each datum BY PROGRAM (the guide's laid-datum.mjs) off the statement by which the dump's own 'gosem.cut.vars' lays the variable. In a bare row this is a premise. The card (YtfadbihdmohdiaaDoorCards.lean) ties it to the program's text. -/
def laid_unicode_utf8_acceptRanges {H : Type} : DataW H := .agg [.agg [.lit (.int .u8 128), .lit (.int .u8 191)], .agg [.lit (.int .u8 160), .lit (.int .u8 191)], .agg [.lit (.int .u8 128), .lit (.int .u8 159)], .agg [.lit (.int .u8 144), .lit (.int .u8 191)], .agg [.lit (.int .u8 128), .lit (.int .u8 143)], .agg [.lit (.int .u8 0), .lit (.int .u8 0)], .agg [.lit (.int .u8 0), .lit (.int .u8 0)], .agg [.lit (.int .u8 0), .lit (.int .u8 0)], .agg [.lit (.int .u8 0), .lit (.int .u8 0)], .agg [.lit (.int .u8 0), .lit (.int .u8 0)], .agg [.lit (.int .u8 0), .lit (.int .u8 0)], .agg [.lit (.int .u8 0), .lit (.int .u8 0)], .agg [.lit (.int .u8 0), .lit (.int .u8 0)], .agg [.lit (.int .u8 0), .lit (.int .u8 0)], .agg [.lit (.int .u8 0), .lit (.int .u8 0)], .agg [.lit (.int .u8 0), .lit (.int .u8 0)]]
/-- One of Go's own tables, pinned by name: the form's constant. -/
def laid_unicode_utf8_first : DataW Unit := Go.Pinned.utf8First

/-- 'osierlaw07.OpsCheck': WHATEVER THE INPUT: true; the input reads as it did. -/
def opsCheckSpec : ChangeSpec := { name := "opsCheck", fn := fun _ => fun
  | [d] => { results := [.lit (.bool true)], args := [d] }
  | _ => none }
def opsCheckRow : OpenClaim := { program := "ytfadbihdmohdiaadoor", sum := "7762aa54fd4cbc4a591d8d685a095c6ae593bcac06b941d1f1e5f8ad9dfee308", func := "osier/osierlaw07.OpsCheck", spec := "opsCheck", inPlace := ["internal/bytealg.IndexByteString", "internal/bytealg.IndexString"], unfollowed := true, recurses := true, named := ["unicode/utf8.first", "unicode/utf8.acceptRanges", "internal/bytealg.MaxLen"], plainKeys := false, apart := false, laid := [("unicode/utf8.acceptRanges", laid_unicode_utf8_acceptRanges), ("unicode/utf8.first", laid_unicode_utf8_first)] }
def OpsCheckSaid : Prop := opsCheckRow.holds Tryd.pinned (OpenSpec.ofChange opsCheckSpec)

/-- ITS FALSE NEIGHBOUR: 'it returns false'. Refute it at one input. -/
def opsCheckWrong : ChangeSpec := { name := "opsCheck", fn := fun _ => fun
  | [d] => { results := [.lit (.bool false)], args := [d] }
  | _ => none }
def OpsCheckWrongFalsely : Prop := opsCheckRow.holds Tryd.pinned (OpenSpec.ofChange opsCheckWrong)

/-- 'osierlaw07.OpsBytes': WHATEVER THE INPUT: true; the input reads as it did. -/
def opsBytesSpec : ChangeSpec := { name := "opsBytes", fn := fun _ => fun
  | [d1, d2] => { results := [.lit (.bool true)], args := [d1, d2] }
  | _ => none }
def opsBytesRow : OpenClaim := { program := "ytfadbihdmohdiaadoor", sum := "7762aa54fd4cbc4a591d8d685a095c6ae593bcac06b941d1f1e5f8ad9dfee308", func := "osier/osierlaw07.OpsBytes", spec := "opsBytes", inPlace := ["internal/bytealg.IndexByteString", "internal/bytealg.IndexString"], unfollowed := true, recurses := true, named := ["unicode/utf8.first", "unicode/utf8.acceptRanges", "internal/bytealg.MaxLen"], plainKeys := false, apart := false, laid := [("unicode/utf8.acceptRanges", laid_unicode_utf8_acceptRanges), ("unicode/utf8.first", laid_unicode_utf8_first)] }
def OpsBytesSaid : Prop := opsBytesRow.holds Tryd.pinned (OpenSpec.ofChange opsBytesSpec)

/-- ITS FALSE NEIGHBOUR: 'it returns false'. Refute it at one input. -/
def opsBytesWrong : ChangeSpec := { name := "opsBytes", fn := fun _ => fun
  | [d1, d2] => { results := [.lit (.bool false)], args := [d1, d2] }
  | _ => none }
def OpsBytesWrongFalsely : Prop := opsBytesRow.holds Tryd.pinned (OpenSpec.ofChange opsBytesWrong)

/-- 'osierlaw07.OpsTake': WHATEVER THE INPUT: true; the input reads as it did. -/
def opsTakeSpec : ChangeSpec := { name := "opsTake", fn := fun _ => fun
  | [d] => { results := [.lit (.bool true)], args := [d] }
  | _ => none }
def opsTakeRow : OpenClaim := { program := "ytfadbihdmohdiaadoor", sum := "7762aa54fd4cbc4a591d8d685a095c6ae593bcac06b941d1f1e5f8ad9dfee308", func := "osier/osierlaw07.OpsTake", spec := "opsTake", inPlace := ["internal/bytealg.IndexByteString", "internal/bytealg.IndexString"], unfollowed := true, recurses := true, named := ["unicode/utf8.first", "unicode/utf8.acceptRanges", "internal/bytealg.MaxLen"], plainKeys := false, apart := false, laid := [("unicode/utf8.acceptRanges", laid_unicode_utf8_acceptRanges), ("unicode/utf8.first", laid_unicode_utf8_first)] }
def OpsTakeSaid : Prop := opsTakeRow.holds Tryd.pinned (OpenSpec.ofChange opsTakeSpec)

/-- ITS FALSE NEIGHBOUR: 'it returns false'. Refute it at one input. -/
def opsTakeWrong : ChangeSpec := { name := "opsTake", fn := fun _ => fun
  | [d] => { results := [.lit (.bool false)], args := [d] }
  | _ => none }
def OpsTakeWrongFalsely : Prop := opsTakeRow.holds Tryd.pinned (OpenSpec.ofChange opsTakeWrong)

/-- 'osierlaw07.OpsOne': WHATEVER THE INPUT: true; the input reads as it did. -/
def opsOneSpec : ChangeSpec := { name := "opsOne", fn := fun _ => fun
  | [d] => { results := [.lit (.bool true)], args := [d] }
  | _ => none }
def opsOneRow : OpenClaim := { program := "ytfadbihdmohdiaadoor", sum := "7762aa54fd4cbc4a591d8d685a095c6ae593bcac06b941d1f1e5f8ad9dfee308", func := "osier/osierlaw07.OpsOne", spec := "opsOne", inPlace := ["internal/bytealg.IndexByteString", "internal/bytealg.IndexString"], unfollowed := true, recurses := true, named := ["unicode/utf8.first", "unicode/utf8.acceptRanges", "internal/bytealg.MaxLen"], plainKeys := false, apart := false, laid := [("unicode/utf8.acceptRanges", laid_unicode_utf8_acceptRanges), ("unicode/utf8.first", laid_unicode_utf8_first)] }
def OpsOneSaid : Prop := opsOneRow.holds Tryd.pinned (OpenSpec.ofChange opsOneSpec)

/-- ITS FALSE NEIGHBOUR: 'it returns false'. Refute it at one input. -/
def opsOneWrong : ChangeSpec := { name := "opsOne", fn := fun _ => fun
  | [d] => { results := [.lit (.bool false)], args := [d] }
  | _ => none }
def OpsOneWrongFalsely : Prop := opsOneRow.holds Tryd.pinned (OpenSpec.ofChange opsOneWrong)

/-- 'osierlaw07.OpsLean': WHATEVER THE INPUT: true; the input reads as it did. -/
def opsLeanSpec : ChangeSpec := { name := "opsLean", fn := fun _ => fun
  | [d] => { results := [.lit (.bool true)], args := [d] }
  | _ => none }
def opsLeanRow : OpenClaim := { program := "ytfadbihdmohdiaadoor", sum := "7762aa54fd4cbc4a591d8d685a095c6ae593bcac06b941d1f1e5f8ad9dfee308", func := "osier/osierlaw07.OpsLean", spec := "opsLean", inPlace := ["internal/bytealg.IndexByteString", "internal/bytealg.IndexString"], unfollowed := true, recurses := true, named := ["unicode/utf8.first", "unicode/utf8.acceptRanges", "internal/bytealg.MaxLen"], plainKeys := false, apart := false, laid := [("unicode/utf8.acceptRanges", laid_unicode_utf8_acceptRanges), ("unicode/utf8.first", laid_unicode_utf8_first)] }
def OpsLeanSaid : Prop := opsLeanRow.holds Tryd.pinned (OpenSpec.ofChange opsLeanSpec)

/-- ITS FALSE NEIGHBOUR: 'it returns false'. Refute it at one input. -/
def opsLeanWrong : ChangeSpec := { name := "opsLean", fn := fun _ => fun
  | [d] => { results := [.lit (.bool false)], args := [d] }
  | _ => none }
def OpsLeanWrongFalsely : Prop := opsLeanRow.holds Tryd.pinned (OpenSpec.ofChange opsLeanWrong)

/-- 'osierlaw08.CausalBehind': WHATEVER THE INPUT: true; the input reads as it did. -/
def causalBehindSpec : ChangeSpec := { name := "causalBehind", fn := fun _ => fun
  | [d] => { results := [.lit (.bool true)], args := [d] }
  | _ => none }
def causalBehindRow : OpenClaim := { program := "ytfadbihdmohdiaadoor", sum := "7762aa54fd4cbc4a591d8d685a095c6ae593bcac06b941d1f1e5f8ad9dfee308", func := "osier/osierlaw08.CausalBehind", spec := "causalBehind", inPlace := ["internal/bytealg.IndexByteString", "internal/bytealg.IndexString"], unfollowed := true, recurses := true, named := ["unicode/utf8.first", "unicode/utf8.acceptRanges", "internal/bytealg.MaxLen"], plainKeys := false, apart := false, laid := [("unicode/utf8.acceptRanges", laid_unicode_utf8_acceptRanges), ("unicode/utf8.first", laid_unicode_utf8_first)] }
def CausalBehindSaid : Prop := causalBehindRow.holds Tryd.pinned (OpenSpec.ofChange causalBehindSpec)

/-- ITS FALSE NEIGHBOUR: 'it returns false'. Refute it at one input. -/
def causalBehindWrong : ChangeSpec := { name := "causalBehind", fn := fun _ => fun
  | [d] => { results := [.lit (.bool false)], args := [d] }
  | _ => none }
def CausalBehindWrongFalsely : Prop := causalBehindRow.holds Tryd.pinned (OpenSpec.ofChange causalBehindWrong)

/- THE SECOND FORM. 'bulk': how many values and letters a reading holds, each counted each time it is reached (what is shared counts as often as it is met; a slice's spare places count too). A statement '..UptoSaid' is the law's where the arguments, and the package variables that the reading takes, are together of bulk at most 1048576: NARROWER than '..Said'. Prove '..Said' where nothing that the law and all that it calls make is longer than what came in: it says more and counts as full. Else prove '..UptoSaid'. A law counts once. -/
mutual
def uptoBulk {H : Type} : DataW H → Nat
  | .lit (.string bytes) => bytes.length + 1
  | .lit _ => 1
  | .nil => 1
  | .ptr d => uptoBulk d + 1
  | .slice elems spare => uptoBulkAll elems + uptoBulkAll spare + 1
  | .agg parts => uptoBulkAll parts + 1
  | .iface _ d => uptoBulk d + 1
  | .map entries => uptoBulkEntries entries + 1
  | .held _ => 1
def uptoBulkAll {H : Type} : List (DataW H) → Nat
  | [] => 0
  | d :: r => uptoBulk d + uptoBulkAll r
def uptoBulkEntries {H : Type} : List (Lit × DataW H) → Nat
  | [] => 0
  | x :: r => uptoBulkEntry x + uptoBulkEntries r
def uptoBulkEntry {H : Type} : Lit × DataW H → Nat
  | (.string bytes, d) => bytes.length + uptoBulk d + 1
  | (_, d) => uptoBulk d + 1
 end
def uptoSmall : (H : Type) → List (DataW H) → Bool := fun _ ds => decide (uptoBulkAll ds ≤ 1048576)
def OpenSpec.upto (s : _root_.Go.ChangeSpec) : _root_.Go.OpenSpec := { _root_.Go.OpenSpec.ofChange s with cond := some uptoSmall }

/-- 'osierlaw07.OpsCheck', WHERE WHAT IT READS IS OF BULK AT MOST 1048576: true; the input reads as it did. -/
def opsCheckUptoRow : OpenClaim := { program := "ytfadbihdmohdiaadoor", sum := "7762aa54fd4cbc4a591d8d685a095c6ae593bcac06b941d1f1e5f8ad9dfee308", func := "osier/osierlaw07.OpsCheck", spec := "opsCheck", inPlace := ["internal/bytealg.IndexByteString", "internal/bytealg.IndexString"], unfollowed := true, recurses := true, named := ["unicode/utf8.first", "unicode/utf8.acceptRanges", "internal/bytealg.MaxLen"], plainKeys := false, apart := false, laid := [("unicode/utf8.acceptRanges", laid_unicode_utf8_acceptRanges), ("unicode/utf8.first", laid_unicode_utf8_first)], narrowed := true }
def OpsCheckUptoSaid : Prop := opsCheckUptoRow.holds Tryd.pinned (OpenSpec.upto opsCheckSpec)

/-- 'osierlaw07.OpsBytes', WHERE WHAT IT READS IS OF BULK AT MOST 1048576: true; the input reads as it did. -/
def opsBytesUptoRow : OpenClaim := { program := "ytfadbihdmohdiaadoor", sum := "7762aa54fd4cbc4a591d8d685a095c6ae593bcac06b941d1f1e5f8ad9dfee308", func := "osier/osierlaw07.OpsBytes", spec := "opsBytes", inPlace := ["internal/bytealg.IndexByteString", "internal/bytealg.IndexString"], unfollowed := true, recurses := true, named := ["unicode/utf8.first", "unicode/utf8.acceptRanges", "internal/bytealg.MaxLen"], plainKeys := false, apart := false, laid := [("unicode/utf8.acceptRanges", laid_unicode_utf8_acceptRanges), ("unicode/utf8.first", laid_unicode_utf8_first)], narrowed := true }
def OpsBytesUptoSaid : Prop := opsBytesUptoRow.holds Tryd.pinned (OpenSpec.upto opsBytesSpec)

/-- 'osierlaw07.OpsTake', WHERE WHAT IT READS IS OF BULK AT MOST 1048576: true; the input reads as it did. -/
def opsTakeUptoRow : OpenClaim := { program := "ytfadbihdmohdiaadoor", sum := "7762aa54fd4cbc4a591d8d685a095c6ae593bcac06b941d1f1e5f8ad9dfee308", func := "osier/osierlaw07.OpsTake", spec := "opsTake", inPlace := ["internal/bytealg.IndexByteString", "internal/bytealg.IndexString"], unfollowed := true, recurses := true, named := ["unicode/utf8.first", "unicode/utf8.acceptRanges", "internal/bytealg.MaxLen"], plainKeys := false, apart := false, laid := [("unicode/utf8.acceptRanges", laid_unicode_utf8_acceptRanges), ("unicode/utf8.first", laid_unicode_utf8_first)], narrowed := true }
def OpsTakeUptoSaid : Prop := opsTakeUptoRow.holds Tryd.pinned (OpenSpec.upto opsTakeSpec)

/-- 'osierlaw07.OpsOne', WHERE WHAT IT READS IS OF BULK AT MOST 1048576: true; the input reads as it did. -/
def opsOneUptoRow : OpenClaim := { program := "ytfadbihdmohdiaadoor", sum := "7762aa54fd4cbc4a591d8d685a095c6ae593bcac06b941d1f1e5f8ad9dfee308", func := "osier/osierlaw07.OpsOne", spec := "opsOne", inPlace := ["internal/bytealg.IndexByteString", "internal/bytealg.IndexString"], unfollowed := true, recurses := true, named := ["unicode/utf8.first", "unicode/utf8.acceptRanges", "internal/bytealg.MaxLen"], plainKeys := false, apart := false, laid := [("unicode/utf8.acceptRanges", laid_unicode_utf8_acceptRanges), ("unicode/utf8.first", laid_unicode_utf8_first)], narrowed := true }
def OpsOneUptoSaid : Prop := opsOneUptoRow.holds Tryd.pinned (OpenSpec.upto opsOneSpec)

/-- 'osierlaw07.OpsLean', WHERE WHAT IT READS IS OF BULK AT MOST 1048576: true; the input reads as it did. -/
def opsLeanUptoRow : OpenClaim := { program := "ytfadbihdmohdiaadoor", sum := "7762aa54fd4cbc4a591d8d685a095c6ae593bcac06b941d1f1e5f8ad9dfee308", func := "osier/osierlaw07.OpsLean", spec := "opsLean", inPlace := ["internal/bytealg.IndexByteString", "internal/bytealg.IndexString"], unfollowed := true, recurses := true, named := ["unicode/utf8.first", "unicode/utf8.acceptRanges", "internal/bytealg.MaxLen"], plainKeys := false, apart := false, laid := [("unicode/utf8.acceptRanges", laid_unicode_utf8_acceptRanges), ("unicode/utf8.first", laid_unicode_utf8_first)], narrowed := true }
def OpsLeanUptoSaid : Prop := opsLeanUptoRow.holds Tryd.pinned (OpenSpec.upto opsLeanSpec)

/-- 'osierlaw08.CausalBehind', WHERE WHAT IT READS IS OF BULK AT MOST 1048576: true; the input reads as it did. -/
def causalBehindUptoRow : OpenClaim := { program := "ytfadbihdmohdiaadoor", sum := "7762aa54fd4cbc4a591d8d685a095c6ae593bcac06b941d1f1e5f8ad9dfee308", func := "osier/osierlaw08.CausalBehind", spec := "causalBehind", inPlace := ["internal/bytealg.IndexByteString", "internal/bytealg.IndexString"], unfollowed := true, recurses := true, named := ["unicode/utf8.first", "unicode/utf8.acceptRanges", "internal/bytealg.MaxLen"], plainKeys := false, apart := false, laid := [("unicode/utf8.acceptRanges", laid_unicode_utf8_acceptRanges), ("unicode/utf8.first", laid_unicode_utf8_first)], narrowed := true }
def CausalBehindUptoSaid : Prop := causalBehindUptoRow.holds Tryd.pinned (OpenSpec.upto causalBehindSpec)

end Rows
end Go.Proofs.YtfadbihdmohdiaaDoor

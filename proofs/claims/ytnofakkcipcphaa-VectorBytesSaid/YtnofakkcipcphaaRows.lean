/-
  No cell of these rows narrows 'for every input' (looked for: loops, veiled, ifaces, maps, wideKeys, modest, calm, conditions, laid).
  DERIVED. THE GIVEN ROWS OF THIS SEAT. 11 by the template 'for every input the law returns true; each argument reads behind the call as it read before'; 0 by the template 'total and deterministic' (their statements: YtnofakkcipcphaaTotals.lean).
  GIVEN WITH THE SEED: the statements are not yours to turn. If you find one false, say at which input.
  Laid BY PROGRAM, IN A SANDBOX (cutbox-rows.mjs): the forced cells as the released guide's own fill.sh prints them over the translation 204b1d7182c70af0… (all of the seat's roots in one cut). By AI agents, Wed Nov 11 2026. No macro, syntax, notation, axiom, sorry.
-/
import Derived.Test.YtnofakkcipcphaaChecked
import GoSem.Claim
import GoSem.ClaimJoined
import GoSem.ClaimMapViews
import Derived.JoinedTies
import Derived.KernelRfl
namespace Go.Proofs.Ytnofakkcipcphaa
/- THE CELL 'sum', in the pinned program and in every row, IS THE sha256 OF THE DUMP (.gsa) THAT YtnofakkcipcphaaProg.lean LOADS. Nothing in Lean hashes anything: it is a label: what it is worth is what the hold of that sum in a sandbox is worth. -/
noncomputable def Try.pinned : Pinned := { name := "ytnofakkcipcphaa", sum := "204b1d7182c70af0e2d9da524b0488d50ded598d835c735760d7eeb130a9cb54", checked := Try.checked }
namespace Rows
def none {H : Type} : Left H := { results := [], args := [] }

/-- 'osierlaw03.DotsOrder': WHATEVER THE INPUT: true; the input reads as it did. -/
def dotsOrderSpec : ChangeSpec := { name := "dotsOrder", fn := fun _ => fun
  | [d1, d2, d3] => { results := [.lit (.bool true)], args := [d1, d2, d3] }
  | _ => none }
def dotsOrderRow : OpenClaim := { program := "ytnofakkcipcphaa", sum := "204b1d7182c70af0e2d9da524b0488d50ded598d835c735760d7eeb130a9cb54", func := "osier/osierlaw03.DotsOrder", spec := "dotsOrder", unfollowed := true, recurses := true, plainKeys := false, apart := false }
def DotsOrderSaid : Prop := dotsOrderRow.holds Try.pinned (OpenSpec.ofChange dotsOrderSpec)

/-- ITS FALSE NEIGHBOUR: 'it returns false'. Refute it at one input. -/
def dotsOrderWrong : ChangeSpec := { name := "dotsOrder", fn := fun _ => fun
  | [d1, d2, d3] => { results := [.lit (.bool false)], args := [d1, d2, d3] }
  | _ => none }
def DotsOrderWrongFalsely : Prop := dotsOrderRow.holds Try.pinned (OpenSpec.ofChange dotsOrderWrong)

/-- 'osierlaw03.DotsRises': WHATEVER THE INPUT: true; the input reads as it did. -/
def dotsRisesSpec : ChangeSpec := { name := "dotsRises", fn := fun _ => fun
  | [d] => { results := [.lit (.bool true)], args := [d] }
  | _ => none }
def dotsRisesRow : OpenClaim := { program := "ytnofakkcipcphaa", sum := "204b1d7182c70af0e2d9da524b0488d50ded598d835c735760d7eeb130a9cb54", func := "osier/osierlaw03.DotsRises", spec := "dotsRises", unfollowed := true, recurses := true, plainKeys := false, apart := false }
def DotsRisesSaid : Prop := dotsRisesRow.holds Try.pinned (OpenSpec.ofChange dotsRisesSpec)

/-- ITS FALSE NEIGHBOUR: 'it returns false'. Refute it at one input. -/
def dotsRisesWrong : ChangeSpec := { name := "dotsRises", fn := fun _ => fun
  | [d] => { results := [.lit (.bool false)], args := [d] }
  | _ => none }
def DotsRisesWrongFalsely : Prop := dotsRisesRow.holds Try.pinned (OpenSpec.ofChange dotsRisesWrong)

/-- 'osierlaw03.DotsJoins': WHATEVER THE INPUT: true; the input reads as it did. -/
def dotsJoinsSpec : ChangeSpec := { name := "dotsJoins", fn := fun _ => fun
  | [d1, d2] => { results := [.lit (.bool true)], args := [d1, d2] }
  | _ => none }
def dotsJoinsRow : OpenClaim := { program := "ytnofakkcipcphaa", sum := "204b1d7182c70af0e2d9da524b0488d50ded598d835c735760d7eeb130a9cb54", func := "osier/osierlaw03.DotsJoins", spec := "dotsJoins", unfollowed := true, recurses := true, plainKeys := false, apart := false }
def DotsJoinsSaid : Prop := dotsJoinsRow.holds Try.pinned (OpenSpec.ofChange dotsJoinsSpec)

/-- ITS FALSE NEIGHBOUR: 'it returns false'. Refute it at one input. -/
def dotsJoinsWrong : ChangeSpec := { name := "dotsJoins", fn := fun _ => fun
  | [d1, d2] => { results := [.lit (.bool false)], args := [d1, d2] }
  | _ => none }
def DotsJoinsWrongFalsely : Prop := dotsJoinsRow.holds Try.pinned (OpenSpec.ofChange dotsJoinsWrong)

/-- 'osierlaw03.DotsLaws': WHATEVER THE INPUT: true; the input reads as it did. -/
def dotsLawsSpec : ChangeSpec := { name := "dotsLaws", fn := fun _ => fun
  | [d1, d2, d3] => { results := [.lit (.bool true)], args := [d1, d2, d3] }
  | _ => none }
def dotsLawsRow : OpenClaim := { program := "ytnofakkcipcphaa", sum := "204b1d7182c70af0e2d9da524b0488d50ded598d835c735760d7eeb130a9cb54", func := "osier/osierlaw03.DotsLaws", spec := "dotsLaws", unfollowed := true, recurses := true, plainKeys := false, apart := false }
def DotsLawsSaid : Prop := dotsLawsRow.holds Try.pinned (OpenSpec.ofChange dotsLawsSpec)

/-- ITS FALSE NEIGHBOUR: 'it returns false'. Refute it at one input. -/
def dotsLawsWrong : ChangeSpec := { name := "dotsLaws", fn := fun _ => fun
  | [d1, d2, d3] => { results := [.lit (.bool false)], args := [d1, d2, d3] }
  | _ => none }
def DotsLawsWrongFalsely : Prop := dotsLawsRow.holds Try.pinned (OpenSpec.ofChange dotsLawsWrong)

/-- 'osierlaw04.VectorMay': WHATEVER THE INPUT: true; the input reads as it did. -/
def vectorMaySpec : ChangeSpec := { name := "vectorMay", fn := fun _ => fun
  | [d1, d2, d3] => { results := [.lit (.bool true)], args := [d1, d2, d3] }
  | _ => none }
def vectorMayRow : OpenClaim := { program := "ytnofakkcipcphaa", sum := "204b1d7182c70af0e2d9da524b0488d50ded598d835c735760d7eeb130a9cb54", func := "osier/osierlaw04.VectorMay", spec := "vectorMay", unfollowed := true, recurses := true, plainKeys := false, apart := false }
def VectorMaySaid : Prop := vectorMayRow.holds Try.pinned (OpenSpec.ofChange vectorMaySpec)

/-- ITS FALSE NEIGHBOUR: 'it returns false'. Refute it at one input. -/
def vectorMayWrong : ChangeSpec := { name := "vectorMay", fn := fun _ => fun
  | [d1, d2, d3] => { results := [.lit (.bool false)], args := [d1, d2, d3] }
  | _ => none }
def VectorMayWrongFalsely : Prop := vectorMayRow.holds Try.pinned (OpenSpec.ofChange vectorMayWrong)

/-- 'osierlaw04.VectorLaws': WHATEVER THE INPUT: true; the input reads as it did. -/
def vectorLawsSpec : ChangeSpec := { name := "vectorLaws", fn := fun _ => fun
  | [d1, d2, d3] => { results := [.lit (.bool true)], args := [d1, d2, d3] }
  | _ => none }
def vectorLawsRow : OpenClaim := { program := "ytnofakkcipcphaa", sum := "204b1d7182c70af0e2d9da524b0488d50ded598d835c735760d7eeb130a9cb54", func := "osier/osierlaw04.VectorLaws", spec := "vectorLaws", unfollowed := true, recurses := true, plainKeys := false, apart := false }
def VectorLawsSaid : Prop := vectorLawsRow.holds Try.pinned (OpenSpec.ofChange vectorLawsSpec)

/-- ITS FALSE NEIGHBOUR: 'it returns false'. Refute it at one input. -/
def vectorLawsWrong : ChangeSpec := { name := "vectorLaws", fn := fun _ => fun
  | [d1, d2, d3] => { results := [.lit (.bool false)], args := [d1, d2, d3] }
  | _ => none }
def VectorLawsWrongFalsely : Prop := vectorLawsRow.holds Try.pinned (OpenSpec.ofChange vectorLawsWrong)

/-- 'osierlaw03.DotsBytes': WHATEVER THE INPUT: true; the input reads as it did. -/
def dotsBytesSpec : ChangeSpec := { name := "dotsBytes", fn := fun _ => fun
  | [d1, d2] => { results := [.lit (.bool true)], args := [d1, d2] }
  | _ => none }
def dotsBytesRow : OpenClaim := { program := "ytnofakkcipcphaa", sum := "204b1d7182c70af0e2d9da524b0488d50ded598d835c735760d7eeb130a9cb54", func := "osier/osierlaw03.DotsBytes", spec := "dotsBytes", unfollowed := true, recurses := true, plainKeys := false, apart := false }
def DotsBytesSaid : Prop := dotsBytesRow.holds Try.pinned (OpenSpec.ofChange dotsBytesSpec)

/-- ITS FALSE NEIGHBOUR: 'it returns false'. Refute it at one input. -/
def dotsBytesWrong : ChangeSpec := { name := "dotsBytes", fn := fun _ => fun
  | [d1, d2] => { results := [.lit (.bool false)], args := [d1, d2] }
  | _ => none }
def DotsBytesWrongFalsely : Prop := dotsBytesRow.holds Try.pinned (OpenSpec.ofChange dotsBytesWrong)

/-- 'osierlaw04.VectorWith': WHATEVER THE INPUT: true; the input reads as it did. -/
def vectorWithSpec : ChangeSpec := { name := "vectorWith", fn := fun _ => fun
  | [d1, d2, d3] => { results := [.lit (.bool true)], args := [d1, d2, d3] }
  | _ => none }
def vectorWithRow : OpenClaim := { program := "ytnofakkcipcphaa", sum := "204b1d7182c70af0e2d9da524b0488d50ded598d835c735760d7eeb130a9cb54", func := "osier/osierlaw04.VectorWith", spec := "vectorWith", unfollowed := true, recurses := true, plainKeys := false, apart := false }
def VectorWithSaid : Prop := vectorWithRow.holds Try.pinned (OpenSpec.ofChange vectorWithSpec)

/-- ITS FALSE NEIGHBOUR: 'it returns false'. Refute it at one input. -/
def vectorWithWrong : ChangeSpec := { name := "vectorWith", fn := fun _ => fun
  | [d1, d2, d3] => { results := [.lit (.bool false)], args := [d1, d2, d3] }
  | _ => none }
def VectorWithWrongFalsely : Prop := vectorWithRow.holds Try.pinned (OpenSpec.ofChange vectorWithWrong)

/-- 'osierlaw04.VectorMissing': WHATEVER THE INPUT: true; the input reads as it did. -/
def vectorMissingSpec : ChangeSpec := { name := "vectorMissing", fn := fun _ => fun
  | [d1, d2] => { results := [.lit (.bool true)], args := [d1, d2] }
  | _ => none }
def vectorMissingRow : OpenClaim := { program := "ytnofakkcipcphaa", sum := "204b1d7182c70af0e2d9da524b0488d50ded598d835c735760d7eeb130a9cb54", func := "osier/osierlaw04.VectorMissing", spec := "vectorMissing", unfollowed := true, recurses := true, plainKeys := false, apart := false }
def VectorMissingSaid : Prop := vectorMissingRow.holds Try.pinned (OpenSpec.ofChange vectorMissingSpec)

/-- ITS FALSE NEIGHBOUR: 'it returns false'. Refute it at one input. -/
def vectorMissingWrong : ChangeSpec := { name := "vectorMissing", fn := fun _ => fun
  | [d1, d2] => { results := [.lit (.bool false)], args := [d1, d2] }
  | _ => none }
def VectorMissingWrongFalsely : Prop := vectorMissingRow.holds Try.pinned (OpenSpec.ofChange vectorMissingWrong)

/-- 'osierlaw04.VectorJoins': WHATEVER THE INPUT: true; the input reads as it did. -/
def vectorJoinsSpec : ChangeSpec := { name := "vectorJoins", fn := fun _ => fun
  | [d1, d2, d3, d4] => { results := [.lit (.bool true)], args := [d1, d2, d3, d4] }
  | _ => none }
def vectorJoinsRow : OpenClaim := { program := "ytnofakkcipcphaa", sum := "204b1d7182c70af0e2d9da524b0488d50ded598d835c735760d7eeb130a9cb54", func := "osier/osierlaw04.VectorJoins", spec := "vectorJoins", unfollowed := true, recurses := true, plainKeys := false, apart := false }
def VectorJoinsSaid : Prop := vectorJoinsRow.holds Try.pinned (OpenSpec.ofChange vectorJoinsSpec)

/-- ITS FALSE NEIGHBOUR: 'it returns false'. Refute it at one input. -/
def vectorJoinsWrong : ChangeSpec := { name := "vectorJoins", fn := fun _ => fun
  | [d1, d2, d3, d4] => { results := [.lit (.bool false)], args := [d1, d2, d3, d4] }
  | _ => none }
def VectorJoinsWrongFalsely : Prop := vectorJoinsRow.holds Try.pinned (OpenSpec.ofChange vectorJoinsWrong)

/-- 'osierlaw04.VectorBytes': WHATEVER THE INPUT: true; the input reads as it did. -/
def vectorBytesSpec : ChangeSpec := { name := "vectorBytes", fn := fun _ => fun
  | [d1, d2] => { results := [.lit (.bool true)], args := [d1, d2] }
  | _ => none }
def vectorBytesRow : OpenClaim := { program := "ytnofakkcipcphaa", sum := "204b1d7182c70af0e2d9da524b0488d50ded598d835c735760d7eeb130a9cb54", func := "osier/osierlaw04.VectorBytes", spec := "vectorBytes", unfollowed := true, recurses := true, plainKeys := false, apart := false }
def VectorBytesSaid : Prop := vectorBytesRow.holds Try.pinned (OpenSpec.ofChange vectorBytesSpec)

/-- ITS FALSE NEIGHBOUR: 'it returns false'. Refute it at one input. -/
def vectorBytesWrong : ChangeSpec := { name := "vectorBytes", fn := fun _ => fun
  | [d1, d2] => { results := [.lit (.bool false)], args := [d1, d2] }
  | _ => none }
def VectorBytesWrongFalsely : Prop := vectorBytesRow.holds Try.pinned (OpenSpec.ofChange vectorBytesWrong)

/- THE SECOND FORM. 'bulk': how many values and letters a reading holds, each counted each time it is reached (what is shared counts as often as it is met; a slice's spare places count too). A statement '..UptoSaid' is the law's where the arguments, and the package variables that the reading takes, are together of bulk at most 1048576: NARROWER than '..Said'. Prove '..Said' where nothing that the law and all that it calls make is longer than what came in: it says more and counts as full. Else prove '..UptoSaid'. A law counts once. -/
mutual
def uptoBulk {H : Type} : DataW H → Nat
  | .lit (.string bytes) => bytes.length + 1
  | .lit _ => 1
  | .nil => 1
  | .ptr d => uptoBulk d + 1
  | .slice elems spare => uptoBulkAll elems + uptoBulkAll spare + 1
  | .agg parts => uptoBulkAll parts + 1
  | .iface _ d => uptoBulk d + 1
  | .map entries => uptoBulkEntries entries + 1
  | .held _ => 1
def uptoBulkAll {H : Type} : List (DataW H) → Nat
  | [] => 0
  | d :: r => uptoBulk d + uptoBulkAll r
def uptoBulkEntries {H : Type} : List (Lit × DataW H) → Nat
  | [] => 0
  | x :: r => uptoBulkEntry x + uptoBulkEntries r
def uptoBulkEntry {H : Type} : Lit × DataW H → Nat
  | (.string bytes, d) => bytes.length + uptoBulk d + 1
  | (_, d) => uptoBulk d + 1
 end
def uptoSmall : (H : Type) → List (DataW H) → Bool := fun _ ds => decide (uptoBulkAll ds ≤ 1048576)
def OpenSpec.upto (s : _root_.Go.ChangeSpec) : _root_.Go.OpenSpec := { _root_.Go.OpenSpec.ofChange s with cond := some uptoSmall }

/-- 'osierlaw03.DotsOrder', WHERE WHAT IT READS IS OF BULK AT MOST 1048576: true; the input reads as it did. -/
def dotsOrderUptoRow : OpenClaim := { program := "ytnofakkcipcphaa", sum := "204b1d7182c70af0e2d9da524b0488d50ded598d835c735760d7eeb130a9cb54", func := "osier/osierlaw03.DotsOrder", spec := "dotsOrder", unfollowed := true, recurses := true, plainKeys := false, apart := false, narrowed := true }
def DotsOrderUptoSaid : Prop := dotsOrderUptoRow.holds Try.pinned (OpenSpec.upto dotsOrderSpec)

/-- 'osierlaw03.DotsRises', WHERE WHAT IT READS IS OF BULK AT MOST 1048576: true; the input reads as it did. -/
def dotsRisesUptoRow : OpenClaim := { program := "ytnofakkcipcphaa", sum := "204b1d7182c70af0e2d9da524b0488d50ded598d835c735760d7eeb130a9cb54", func := "osier/osierlaw03.DotsRises", spec := "dotsRises", unfollowed := true, recurses := true, plainKeys := false, apart := false, narrowed := true }
def DotsRisesUptoSaid : Prop := dotsRisesUptoRow.holds Try.pinned (OpenSpec.upto dotsRisesSpec)

/-- 'osierlaw03.DotsJoins', WHERE WHAT IT READS IS OF BULK AT MOST 1048576: true; the input reads as it did. -/
def dotsJoinsUptoRow : OpenClaim := { program := "ytnofakkcipcphaa", sum := "204b1d7182c70af0e2d9da524b0488d50ded598d835c735760d7eeb130a9cb54", func := "osier/osierlaw03.DotsJoins", spec := "dotsJoins", unfollowed := true, recurses := true, plainKeys := false, apart := false, narrowed := true }
def DotsJoinsUptoSaid : Prop := dotsJoinsUptoRow.holds Try.pinned (OpenSpec.upto dotsJoinsSpec)

/-- 'osierlaw03.DotsLaws', WHERE WHAT IT READS IS OF BULK AT MOST 1048576: true; the input reads as it did. -/
def dotsLawsUptoRow : OpenClaim := { program := "ytnofakkcipcphaa", sum := "204b1d7182c70af0e2d9da524b0488d50ded598d835c735760d7eeb130a9cb54", func := "osier/osierlaw03.DotsLaws", spec := "dotsLaws", unfollowed := true, recurses := true, plainKeys := false, apart := false, narrowed := true }
def DotsLawsUptoSaid : Prop := dotsLawsUptoRow.holds Try.pinned (OpenSpec.upto dotsLawsSpec)

/-- 'osierlaw04.VectorMay', WHERE WHAT IT READS IS OF BULK AT MOST 1048576: true; the input reads as it did. -/
def vectorMayUptoRow : OpenClaim := { program := "ytnofakkcipcphaa", sum := "204b1d7182c70af0e2d9da524b0488d50ded598d835c735760d7eeb130a9cb54", func := "osier/osierlaw04.VectorMay", spec := "vectorMay", unfollowed := true, recurses := true, plainKeys := false, apart := false, narrowed := true }
def VectorMayUptoSaid : Prop := vectorMayUptoRow.holds Try.pinned (OpenSpec.upto vectorMaySpec)

/-- 'osierlaw04.VectorLaws', WHERE WHAT IT READS IS OF BULK AT MOST 1048576: true; the input reads as it did. -/
def vectorLawsUptoRow : OpenClaim := { program := "ytnofakkcipcphaa", sum := "204b1d7182c70af0e2d9da524b0488d50ded598d835c735760d7eeb130a9cb54", func := "osier/osierlaw04.VectorLaws", spec := "vectorLaws", unfollowed := true, recurses := true, plainKeys := false, apart := false, narrowed := true }
def VectorLawsUptoSaid : Prop := vectorLawsUptoRow.holds Try.pinned (OpenSpec.upto vectorLawsSpec)

/-- 'osierlaw03.DotsBytes', WHERE WHAT IT READS IS OF BULK AT MOST 1048576: true; the input reads as it did. -/
def dotsBytesUptoRow : OpenClaim := { program := "ytnofakkcipcphaa", sum := "204b1d7182c70af0e2d9da524b0488d50ded598d835c735760d7eeb130a9cb54", func := "osier/osierlaw03.DotsBytes", spec := "dotsBytes", unfollowed := true, recurses := true, plainKeys := false, apart := false, narrowed := true }
def DotsBytesUptoSaid : Prop := dotsBytesUptoRow.holds Try.pinned (OpenSpec.upto dotsBytesSpec)

/-- 'osierlaw04.VectorWith', WHERE WHAT IT READS IS OF BULK AT MOST 1048576: true; the input reads as it did. -/
def vectorWithUptoRow : OpenClaim := { program := "ytnofakkcipcphaa", sum := "204b1d7182c70af0e2d9da524b0488d50ded598d835c735760d7eeb130a9cb54", func := "osier/osierlaw04.VectorWith", spec := "vectorWith", unfollowed := true, recurses := true, plainKeys := false, apart := false, narrowed := true }
def VectorWithUptoSaid : Prop := vectorWithUptoRow.holds Try.pinned (OpenSpec.upto vectorWithSpec)

/-- 'osierlaw04.VectorMissing', WHERE WHAT IT READS IS OF BULK AT MOST 1048576: true; the input reads as it did. -/
def vectorMissingUptoRow : OpenClaim := { program := "ytnofakkcipcphaa", sum := "204b1d7182c70af0e2d9da524b0488d50ded598d835c735760d7eeb130a9cb54", func := "osier/osierlaw04.VectorMissing", spec := "vectorMissing", unfollowed := true, recurses := true, plainKeys := false, apart := false, narrowed := true }
def VectorMissingUptoSaid : Prop := vectorMissingUptoRow.holds Try.pinned (OpenSpec.upto vectorMissingSpec)

/-- 'osierlaw04.VectorJoins', WHERE WHAT IT READS IS OF BULK AT MOST 1048576: true; the input reads as it did. -/
def vectorJoinsUptoRow : OpenClaim := { program := "ytnofakkcipcphaa", sum := "204b1d7182c70af0e2d9da524b0488d50ded598d835c735760d7eeb130a9cb54", func := "osier/osierlaw04.VectorJoins", spec := "vectorJoins", unfollowed := true, recurses := true, plainKeys := false, apart := false, narrowed := true }
def VectorJoinsUptoSaid : Prop := vectorJoinsUptoRow.holds Try.pinned (OpenSpec.upto vectorJoinsSpec)

/-- 'osierlaw04.VectorBytes', WHERE WHAT IT READS IS OF BULK AT MOST 1048576: true; the input reads as it did. -/
def vectorBytesUptoRow : OpenClaim := { program := "ytnofakkcipcphaa", sum := "204b1d7182c70af0e2d9da524b0488d50ded598d835c735760d7eeb130a9cb54", func := "osier/osierlaw04.VectorBytes", spec := "vectorBytes", unfollowed := true, recurses := true, plainKeys := false, apart := false, narrowed := true }
def VectorBytesUptoSaid : Prop := vectorBytesUptoRow.holds Try.pinned (OpenSpec.upto vectorBytesSpec)

end Rows
end Go.Proofs.Ytnofakkcipcphaa

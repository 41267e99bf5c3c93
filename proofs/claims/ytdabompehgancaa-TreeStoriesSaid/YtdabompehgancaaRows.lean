/-
  No cell of these rows narrows 'for every input' (looked for: loops, veiled, ifaces, maps, wideKeys, modest, calm, conditions, laid).
  DERIVED. THE GIVEN ROWS OF THIS SEAT. 11 by the template 'for every input the law returns true; each argument reads behind the call as it read before'; 0 by the template 'total and deterministic' (their statements: YtdabompehgancaaTotals.lean).
  GIVEN WITH THE SEED: the statements are not yours to turn. If you find one false, say at which input.
  Laid BY PROGRAM, IN A SANDBOX (cutbox-rows.mjs): the forced cells as the released guide's own fill.sh prints them over the translation 91cc874943cba633… (all of the seat's roots in one cut). By AI agents, Wed Nov 11 2026. No macro, syntax, notation, axiom, sorry.
-/
import Derived.Test.YtdabompehgancaaChecked
import GoSem.Claim
import GoSem.ClaimJoined
import GoSem.ClaimMapViews
import Derived.JoinedTies
import Derived.KernelRfl
namespace Go.Proofs.Ytdabompehgancaa
/- THE CELL 'sum', in the pinned program and in every row, IS THE sha256 OF THE DUMP (.gsa) THAT YtdabompehgancaaProg.lean LOADS. Nothing in Lean hashes anything: it is a label: what it is worth is what the hold of that sum in a sandbox is worth. -/
noncomputable def Try.pinned : Pinned := { name := "ytdabompehgancaa", sum := "91cc874943cba633d80df491fcd1567e80d8a85d8966459ef7d6a8cffb268029", checked := Try.checked }
namespace Rows
def none {H : Type} : Left H := { results := [], args := [] }

/-- 'osierlaw10.TreeLast': WHATEVER THE INPUT: true; the input reads as it did. -/
def treeLastSpec : ChangeSpec := { name := "treeLast", fn := fun _ => fun
  | [d] => { results := [.lit (.bool true)], args := [d] }
  | _ => none }
def treeLastRow : OpenClaim := { program := "ytdabompehgancaa", sum := "91cc874943cba633d80df491fcd1567e80d8a85d8966459ef7d6a8cffb268029", func := "osier/osierlaw10.TreeLast", spec := "treeLast", unfollowed := true, recurses := true, plainKeys := false, apart := false }
def TreeLastSaid : Prop := treeLastRow.holds Try.pinned (OpenSpec.ofChange treeLastSpec)

/-- ITS FALSE NEIGHBOUR: 'it returns false'. Refute it at one input. -/
def treeLastWrong : ChangeSpec := { name := "treeLast", fn := fun _ => fun
  | [d] => { results := [.lit (.bool false)], args := [d] }
  | _ => none }
def TreeLastWrongFalsely : Prop := treeLastRow.holds Try.pinned (OpenSpec.ofChange treeLastWrong)

/-- 'osierlaw09.FugueTypes': WHATEVER THE INPUT: true; the input reads as it did. -/
def fugueTypesSpec : ChangeSpec := { name := "fugueTypes", fn := fun _ => fun
  | [d1, d2] => { results := [.lit (.bool true)], args := [d1, d2] }
  | _ => none }
def fugueTypesRow : OpenClaim := { program := "ytdabompehgancaa", sum := "91cc874943cba633d80df491fcd1567e80d8a85d8966459ef7d6a8cffb268029", func := "osier/osierlaw09.FugueTypes", spec := "fugueTypes", inPlace := ["slices.overlaps[*osier/fugue.node]"], unfollowed := true, recurses := true, plainKeys := false, apart := false }
def FugueTypesSaid : Prop := fugueTypesRow.holds Try.pinned (OpenSpec.ofChange fugueTypesSpec)

/-- ITS FALSE NEIGHBOUR: 'it returns false'. Refute it at one input. -/
def fugueTypesWrong : ChangeSpec := { name := "fugueTypes", fn := fun _ => fun
  | [d1, d2] => { results := [.lit (.bool false)], args := [d1, d2] }
  | _ => none }
def FugueTypesWrongFalsely : Prop := fugueTypesRow.holds Try.pinned (OpenSpec.ofChange fugueTypesWrong)

/-- 'osierlaw09.FugueOrders': WHATEVER THE INPUT: true; the input reads as it did. -/
def fugueOrdersSpec : ChangeSpec := { name := "fugueOrders", fn := fun _ => fun
  | [d1, d2] => { results := [.lit (.bool true)], args := [d1, d2] }
  | _ => none }
def fugueOrdersRow : OpenClaim := { program := "ytdabompehgancaa", sum := "91cc874943cba633d80df491fcd1567e80d8a85d8966459ef7d6a8cffb268029", func := "osier/osierlaw09.FugueOrders", spec := "fugueOrders", inPlace := ["slices.overlaps[*osier/fugue.node]"], unfollowed := true, recurses := true, plainKeys := false, apart := false }
def FugueOrdersSaid : Prop := fugueOrdersRow.holds Try.pinned (OpenSpec.ofChange fugueOrdersSpec)

/-- ITS FALSE NEIGHBOUR: 'it returns false'. Refute it at one input. -/
def fugueOrdersWrong : ChangeSpec := { name := "fugueOrders", fn := fun _ => fun
  | [d1, d2] => { results := [.lit (.bool false)], args := [d1, d2] }
  | _ => none }
def FugueOrdersWrongFalsely : Prop := fugueOrdersRow.holds Try.pinned (OpenSpec.ofChange fugueOrdersWrong)

/-- 'osierlaw09.FugueStays': WHATEVER THE INPUT: true; the input reads as it did. -/
def fugueStaysSpec : ChangeSpec := { name := "fugueStays", fn := fun _ => fun
  | [d1, d2] => { results := [.lit (.bool true)], args := [d1, d2] }
  | _ => none }
def fugueStaysRow : OpenClaim := { program := "ytdabompehgancaa", sum := "91cc874943cba633d80df491fcd1567e80d8a85d8966459ef7d6a8cffb268029", func := "osier/osierlaw09.FugueStays", spec := "fugueStays", inPlace := ["slices.overlaps[*osier/fugue.node]"], unfollowed := true, recurses := true, plainKeys := false, apart := false }
def FugueStaysSaid : Prop := fugueStaysRow.holds Try.pinned (OpenSpec.ofChange fugueStaysSpec)

/-- ITS FALSE NEIGHBOUR: 'it returns false'. Refute it at one input. -/
def fugueStaysWrong : ChangeSpec := { name := "fugueStays", fn := fun _ => fun
  | [d1, d2] => { results := [.lit (.bool false)], args := [d1, d2] }
  | _ => none }
def FugueStaysWrongFalsely : Prop := fugueStaysRow.holds Try.pinned (OpenSpec.ofChange fugueStaysWrong)

/-- 'osierlaw09.FuguePlays': WHATEVER THE INPUT: true; the input reads as it did. -/
def fuguePlaysSpec : ChangeSpec := { name := "fuguePlays", fn := fun _ => fun
  | [d1, d2, d3] => { results := [.lit (.bool true)], args := [d1, d2, d3] }
  | _ => none }
def fuguePlaysRow : OpenClaim := { program := "ytdabompehgancaa", sum := "91cc874943cba633d80df491fcd1567e80d8a85d8966459ef7d6a8cffb268029", func := "osier/osierlaw09.FuguePlays", spec := "fuguePlays", inPlace := ["slices.overlaps[*osier/fugue.node]"], unfollowed := true, recurses := true, plainKeys := false, apart := false }
def FuguePlaysSaid : Prop := fuguePlaysRow.holds Try.pinned (OpenSpec.ofChange fuguePlaysSpec)

/-- ITS FALSE NEIGHBOUR: 'it returns false'. Refute it at one input. -/
def fuguePlaysWrong : ChangeSpec := { name := "fuguePlays", fn := fun _ => fun
  | [d1, d2, d3] => { results := [.lit (.bool false)], args := [d1, d2, d3] }
  | _ => none }
def FuguePlaysWrongFalsely : Prop := fuguePlaysRow.holds Try.pinned (OpenSpec.ofChange fuguePlaysWrong)

/-- 'osierlaw09.FugueNone': WHATEVER THE INPUT: true; the input reads as it did. -/
def fugueNoneSpec : ChangeSpec := { name := "fugueNone", fn := fun _ => fun
  | [d1, d2] => { results := [.lit (.bool true)], args := [d1, d2] }
  | _ => none }
def fugueNoneRow : OpenClaim := { program := "ytdabompehgancaa", sum := "91cc874943cba633d80df491fcd1567e80d8a85d8966459ef7d6a8cffb268029", func := "osier/osierlaw09.FugueNone", spec := "fugueNone", inPlace := ["slices.overlaps[*osier/fugue.node]"], unfollowed := true, recurses := true, plainKeys := false, apart := false }
def FugueNoneSaid : Prop := fugueNoneRow.holds Try.pinned (OpenSpec.ofChange fugueNoneSpec)

/-- ITS FALSE NEIGHBOUR: 'it returns false'. Refute it at one input. -/
def fugueNoneWrong : ChangeSpec := { name := "fugueNone", fn := fun _ => fun
  | [d1, d2] => { results := [.lit (.bool false)], args := [d1, d2] }
  | _ => none }
def FugueNoneWrongFalsely : Prop := fugueNoneRow.holds Try.pinned (OpenSpec.ofChange fugueNoneWrong)

/-- 'osierlaw10.TreeMoves': WHATEVER THE INPUT: true; the input reads as it did. -/
def treeMovesSpec : ChangeSpec := { name := "treeMoves", fn := fun _ => fun
  | [d1, d2, d3, d4] => { results := [.lit (.bool true)], args := [d1, d2, d3, d4] }
  | _ => none }
def treeMovesRow : OpenClaim := { program := "ytdabompehgancaa", sum := "91cc874943cba633d80df491fcd1567e80d8a85d8966459ef7d6a8cffb268029", func := "osier/osierlaw10.TreeMoves", spec := "treeMoves", unfollowed := true, recurses := true, plainKeys := false, apart := false }
def TreeMovesSaid : Prop := treeMovesRow.holds Try.pinned (OpenSpec.ofChange treeMovesSpec)

/-- ITS FALSE NEIGHBOUR: 'it returns false'. Refute it at one input. -/
def treeMovesWrong : ChangeSpec := { name := "treeMoves", fn := fun _ => fun
  | [d1, d2, d3, d4] => { results := [.lit (.bool false)], args := [d1, d2, d3, d4] }
  | _ => none }
def TreeMovesWrongFalsely : Prop := treeMovesRow.holds Try.pinned (OpenSpec.ofChange treeMovesWrong)

/-- 'osierlaw10.TreePlays': WHATEVER THE INPUT: true; the input reads as it did. -/
def treePlaysSpec : ChangeSpec := { name := "treePlays", fn := fun _ => fun
  | [d1, d2] => { results := [.lit (.bool true)], args := [d1, d2] }
  | _ => none }
def treePlaysRow : OpenClaim := { program := "ytdabompehgancaa", sum := "91cc874943cba633d80df491fcd1567e80d8a85d8966459ef7d6a8cffb268029", func := "osier/osierlaw10.TreePlays", spec := "treePlays", unfollowed := true, recurses := true, plainKeys := false, apart := false }
def TreePlaysSaid : Prop := treePlaysRow.holds Try.pinned (OpenSpec.ofChange treePlaysSpec)

/-- ITS FALSE NEIGHBOUR: 'it returns false'. Refute it at one input. -/
def treePlaysWrong : ChangeSpec := { name := "treePlays", fn := fun _ => fun
  | [d1, d2] => { results := [.lit (.bool false)], args := [d1, d2] }
  | _ => none }
def TreePlaysWrongFalsely : Prop := treePlaysRow.holds Try.pinned (OpenSpec.ofChange treePlaysWrong)

/-- 'osierlaw10.TreeOrders': WHATEVER THE INPUT: true; the input reads as it did. -/
def treeOrdersSpec : ChangeSpec := { name := "treeOrders", fn := fun _ => fun
  | [d1, d2] => { results := [.lit (.bool true)], args := [d1, d2] }
  | _ => none }
def treeOrdersRow : OpenClaim := { program := "ytdabompehgancaa", sum := "91cc874943cba633d80df491fcd1567e80d8a85d8966459ef7d6a8cffb268029", func := "osier/osierlaw10.TreeOrders", spec := "treeOrders", unfollowed := true, recurses := true, plainKeys := false, apart := false }
def TreeOrdersSaid : Prop := treeOrdersRow.holds Try.pinned (OpenSpec.ofChange treeOrdersSpec)

/-- ITS FALSE NEIGHBOUR: 'it returns false'. Refute it at one input. -/
def treeOrdersWrong : ChangeSpec := { name := "treeOrders", fn := fun _ => fun
  | [d1, d2] => { results := [.lit (.bool false)], args := [d1, d2] }
  | _ => none }
def TreeOrdersWrongFalsely : Prop := treeOrdersRow.holds Try.pinned (OpenSpec.ofChange treeOrdersWrong)

/-- 'osierlaw10.TreePaths': WHATEVER THE INPUT: true; the input reads as it did. -/
def treePathsSpec : ChangeSpec := { name := "treePaths", fn := fun _ => fun
  | [d] => { results := [.lit (.bool true)], args := [d] }
  | _ => none }
def treePathsRow : OpenClaim := { program := "ytdabompehgancaa", sum := "91cc874943cba633d80df491fcd1567e80d8a85d8966459ef7d6a8cffb268029", func := "osier/osierlaw10.TreePaths", spec := "treePaths", unfollowed := true, recurses := true, plainKeys := false, apart := false }
def TreePathsSaid : Prop := treePathsRow.holds Try.pinned (OpenSpec.ofChange treePathsSpec)

/-- ITS FALSE NEIGHBOUR: 'it returns false'. Refute it at one input. -/
def treePathsWrong : ChangeSpec := { name := "treePaths", fn := fun _ => fun
  | [d] => { results := [.lit (.bool false)], args := [d] }
  | _ => none }
def TreePathsWrongFalsely : Prop := treePathsRow.holds Try.pinned (OpenSpec.ofChange treePathsWrong)

/-- 'osierlaw10.TreeStories': WHATEVER THE INPUT: true; the input reads as it did. -/
def treeStoriesSpec : ChangeSpec := { name := "treeStories", fn := fun _ => fun
  | [d] => { results := [.lit (.bool true)], args := [d] }
  | _ => none }
def treeStoriesRow : OpenClaim := { program := "ytdabompehgancaa", sum := "91cc874943cba633d80df491fcd1567e80d8a85d8966459ef7d6a8cffb268029", func := "osier/osierlaw10.TreeStories", spec := "treeStories", unfollowed := true, recurses := true, plainKeys := false, apart := false }
def TreeStoriesSaid : Prop := treeStoriesRow.holds Try.pinned (OpenSpec.ofChange treeStoriesSpec)

/-- ITS FALSE NEIGHBOUR: 'it returns false'. Refute it at one input. -/
def treeStoriesWrong : ChangeSpec := { name := "treeStories", fn := fun _ => fun
  | [d] => { results := [.lit (.bool false)], args := [d] }
  | _ => none }
def TreeStoriesWrongFalsely : Prop := treeStoriesRow.holds Try.pinned (OpenSpec.ofChange treeStoriesWrong)

/- THE SECOND FORM. 'bulk': how many values and letters a reading holds, each counted each time it is reached (what is shared counts as often as it is met; a slice's spare places count too). A statement '..UptoSaid' is the law's where the arguments, and the package variables that the reading takes, are together of bulk at most 1048576: NARROWER than '..Said'. Prove '..Said' where nothing that the law and all that it calls make is longer than what came in: it says more and counts as full. Else prove '..UptoSaid'. A law counts once. -/
mutual
def uptoBulk {H : Type} : DataW H → Nat
  | .lit (.string bytes) => bytes.length + 1
  | .lit _ => 1
  | .nil => 1
  | .ptr d => uptoBulk d + 1
  | .slice elems spare => uptoBulkAll elems + uptoBulkAll spare + 1
  | .agg parts => uptoBulkAll parts + 1
  | .iface _ d => uptoBulk d + 1
  | .map entries => uptoBulkEntries entries + 1
  | .held _ => 1
def uptoBulkAll {H : Type} : List (DataW H) → Nat
  | [] => 0
  | d :: r => uptoBulk d + uptoBulkAll r
def uptoBulkEntries {H : Type} : List (Lit × DataW H) → Nat
  | [] => 0
  | x :: r => uptoBulkEntry x + uptoBulkEntries r
def uptoBulkEntry {H : Type} : Lit × DataW H → Nat
  | (.string bytes, d) => bytes.length + uptoBulk d + 1
  | (_, d) => uptoBulk d + 1
 end
def uptoSmall : (H : Type) → List (DataW H) → Bool := fun _ ds => decide (uptoBulkAll ds ≤ 1048576)
def OpenSpec.upto (s : _root_.Go.ChangeSpec) : _root_.Go.OpenSpec := { _root_.Go.OpenSpec.ofChange s with cond := some uptoSmall }

/-- 'osierlaw10.TreeLast', WHERE WHAT IT READS IS OF BULK AT MOST 1048576: true; the input reads as it did. -/
def treeLastUptoRow : OpenClaim := { program := "ytdabompehgancaa", sum := "91cc874943cba633d80df491fcd1567e80d8a85d8966459ef7d6a8cffb268029", func := "osier/osierlaw10.TreeLast", spec := "treeLast", unfollowed := true, recurses := true, plainKeys := false, apart := false, narrowed := true }
def TreeLastUptoSaid : Prop := treeLastUptoRow.holds Try.pinned (OpenSpec.upto treeLastSpec)

/-- 'osierlaw09.FugueTypes', WHERE WHAT IT READS IS OF BULK AT MOST 1048576: true; the input reads as it did. -/
def fugueTypesUptoRow : OpenClaim := { program := "ytdabompehgancaa", sum := "91cc874943cba633d80df491fcd1567e80d8a85d8966459ef7d6a8cffb268029", func := "osier/osierlaw09.FugueTypes", spec := "fugueTypes", inPlace := ["slices.overlaps[*osier/fugue.node]"], unfollowed := true, recurses := true, plainKeys := false, apart := false, narrowed := true }
def FugueTypesUptoSaid : Prop := fugueTypesUptoRow.holds Try.pinned (OpenSpec.upto fugueTypesSpec)

/-- 'osierlaw09.FugueOrders', WHERE WHAT IT READS IS OF BULK AT MOST 1048576: true; the input reads as it did. -/
def fugueOrdersUptoRow : OpenClaim := { program := "ytdabompehgancaa", sum := "91cc874943cba633d80df491fcd1567e80d8a85d8966459ef7d6a8cffb268029", func := "osier/osierlaw09.FugueOrders", spec := "fugueOrders", inPlace := ["slices.overlaps[*osier/fugue.node]"], unfollowed := true, recurses := true, plainKeys := false, apart := false, narrowed := true }
def FugueOrdersUptoSaid : Prop := fugueOrdersUptoRow.holds Try.pinned (OpenSpec.upto fugueOrdersSpec)

/-- 'osierlaw09.FugueStays', WHERE WHAT IT READS IS OF BULK AT MOST 1048576: true; the input reads as it did. -/
def fugueStaysUptoRow : OpenClaim := { program := "ytdabompehgancaa", sum := "91cc874943cba633d80df491fcd1567e80d8a85d8966459ef7d6a8cffb268029", func := "osier/osierlaw09.FugueStays", spec := "fugueStays", inPlace := ["slices.overlaps[*osier/fugue.node]"], unfollowed := true, recurses := true, plainKeys := false, apart := false, narrowed := true }
def FugueStaysUptoSaid : Prop := fugueStaysUptoRow.holds Try.pinned (OpenSpec.upto fugueStaysSpec)

/-- 'osierlaw09.FuguePlays', WHERE WHAT IT READS IS OF BULK AT MOST 1048576: true; the input reads as it did. -/
def fuguePlaysUptoRow : OpenClaim := { program := "ytdabompehgancaa", sum := "91cc874943cba633d80df491fcd1567e80d8a85d8966459ef7d6a8cffb268029", func := "osier/osierlaw09.FuguePlays", spec := "fuguePlays", inPlace := ["slices.overlaps[*osier/fugue.node]"], unfollowed := true, recurses := true, plainKeys := false, apart := false, narrowed := true }
def FuguePlaysUptoSaid : Prop := fuguePlaysUptoRow.holds Try.pinned (OpenSpec.upto fuguePlaysSpec)

/-- 'osierlaw09.FugueNone', WHERE WHAT IT READS IS OF BULK AT MOST 1048576: true; the input reads as it did. -/
def fugueNoneUptoRow : OpenClaim := { program := "ytdabompehgancaa", sum := "91cc874943cba633d80df491fcd1567e80d8a85d8966459ef7d6a8cffb268029", func := "osier/osierlaw09.FugueNone", spec := "fugueNone", inPlace := ["slices.overlaps[*osier/fugue.node]"], unfollowed := true, recurses := true, plainKeys := false, apart := false, narrowed := true }
def FugueNoneUptoSaid : Prop := fugueNoneUptoRow.holds Try.pinned (OpenSpec.upto fugueNoneSpec)

/-- 'osierlaw10.TreeMoves', WHERE WHAT IT READS IS OF BULK AT MOST 1048576: true; the input reads as it did. -/
def treeMovesUptoRow : OpenClaim := { program := "ytdabompehgancaa", sum := "91cc874943cba633d80df491fcd1567e80d8a85d8966459ef7d6a8cffb268029", func := "osier/osierlaw10.TreeMoves", spec := "treeMoves", unfollowed := true, recurses := true, plainKeys := false, apart := false, narrowed := true }
def TreeMovesUptoSaid : Prop := treeMovesUptoRow.holds Try.pinned (OpenSpec.upto treeMovesSpec)

/-- 'osierlaw10.TreePlays', WHERE WHAT IT READS IS OF BULK AT MOST 1048576: true; the input reads as it did. -/
def treePlaysUptoRow : OpenClaim := { program := "ytdabompehgancaa", sum := "91cc874943cba633d80df491fcd1567e80d8a85d8966459ef7d6a8cffb268029", func := "osier/osierlaw10.TreePlays", spec := "treePlays", unfollowed := true, recurses := true, plainKeys := false, apart := false, narrowed := true }
def TreePlaysUptoSaid : Prop := treePlaysUptoRow.holds Try.pinned (OpenSpec.upto treePlaysSpec)

/-- 'osierlaw10.TreeOrders', WHERE WHAT IT READS IS OF BULK AT MOST 1048576: true; the input reads as it did. -/
def treeOrdersUptoRow : OpenClaim := { program := "ytdabompehgancaa", sum := "91cc874943cba633d80df491fcd1567e80d8a85d8966459ef7d6a8cffb268029", func := "osier/osierlaw10.TreeOrders", spec := "treeOrders", unfollowed := true, recurses := true, plainKeys := false, apart := false, narrowed := true }
def TreeOrdersUptoSaid : Prop := treeOrdersUptoRow.holds Try.pinned (OpenSpec.upto treeOrdersSpec)

/-- 'osierlaw10.TreePaths', WHERE WHAT IT READS IS OF BULK AT MOST 1048576: true; the input reads as it did. -/
def treePathsUptoRow : OpenClaim := { program := "ytdabompehgancaa", sum := "91cc874943cba633d80df491fcd1567e80d8a85d8966459ef7d6a8cffb268029", func := "osier/osierlaw10.TreePaths", spec := "treePaths", unfollowed := true, recurses := true, plainKeys := false, apart := false, narrowed := true }
def TreePathsUptoSaid : Prop := treePathsUptoRow.holds Try.pinned (OpenSpec.upto treePathsSpec)

/-- 'osierlaw10.TreeStories', WHERE WHAT IT READS IS OF BULK AT MOST 1048576: true; the input reads as it did. -/
def treeStoriesUptoRow : OpenClaim := { program := "ytdabompehgancaa", sum := "91cc874943cba633d80df491fcd1567e80d8a85d8966459ef7d6a8cffb268029", func := "osier/osierlaw10.TreeStories", spec := "treeStories", unfollowed := true, recurses := true, plainKeys := false, apart := false, narrowed := true }
def TreeStoriesUptoSaid : Prop := treeStoriesUptoRow.holds Try.pinned (OpenSpec.upto treeStoriesSpec)

end Rows
end Go.Proofs.Ytdabompehgancaa

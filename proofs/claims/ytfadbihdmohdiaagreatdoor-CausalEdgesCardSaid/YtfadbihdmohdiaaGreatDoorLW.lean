/- A world where the listed variables read as laid. -/
import Derived.Test.YtfadbihdmohdiaaGreatDoorRows
import Derived.Lib.LaidIn
import Derived.LaidLaws
import Derived.LaidHandle
import Derived.ChangeVars
set_option linter.unusedSimpArgs false
set_option linter.unusedVariables false
namespace Go.Proofs.YtfadbihdmohdiaaGreatDoor
open Go
def litsOf : DataW Unit → List Value
  | .agg ps => ps.map fun d => match d with | .lit (.int k n) => Value.int k n | _ => .int .u8 0
  | _ => []
noncomputable def laidWorld (os : Os) : World :=
  let w0 := World.holding Tryz.prog os ⟨#[], #[], []⟩
  let put (h : Array Obj) (g : Nat) (cs : Array Value) : Array Obj := h.modify g fun
    | .cells _ t frozen => .cells cs t frozen
    | o => o
  let h1 := put w0.heap 0 (litsOf Go.Pinned.utf8First).toArray
  let h2 := put h1 1 (match (Rows.laid_unicode_utf8_acceptRanges : DataW Unit) with | .agg ps => (ps.flatMap litsOf).toArray | _ => #[])
  { w0 with heap := h2 }
abbrev laidL : List (String × DataW Unit) := [("unicode/utf8.acceptRanges", Rows.laid_unicode_utf8_acceptRanges), ("unicode/utf8.first", Rows.laid_unicode_utf8_first)]
theorem laidWorld_met0 (os : Os) (args : Array Value) : laidMet Tryz.prog laidL ((laidWorld os).forCall (fun _ _ => 0) ⟨#[], args, []⟩).memory :=
  (LaidIn.of_run (l := laidL) [0, 1] 8 (by kernel_rfl) (by kernel_rfl) (by kernel_rfl) (by kernel_rfl)).met
theorem laid_plain : laidL.filter (fun x => x.2.handleName?.isSome) = [] := by kernel_rfl
theorem laidWorld_met (os : Os) (args : Array Value) : laidMetH Tryz.prog laidL ((laidWorld os).forCall (fun _ _ => 0) ⟨#[], args, []⟩).memory := by
  unfold laidMetH
  rw [laid_plain]
  exact laidWorld_met0 os args
end Go.Proofs.YtfadbihdmohdiaaGreatDoor

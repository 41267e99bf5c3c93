/- The functions' numbers in this translation. -/
import Derived.Test.YtnofakkcipcphaaOsjM
import Derived.Test.YtnofakkcipcphaaProg
namespace Go.Osj
noncomputable abbrev PR : Program := Go.Proofs.Try.prog
theorem PR.mixed : PR.follows .mixedOrders = true := by kernel_rfl
def F.osierlaw03_DotsOrder : Nat := 3
def F.osierlaw03_DotsRises : Nat := 4
def F.osierlaw03_DotsJoins : Nat := 5
def F.osierlaw03_DotsLaws : Nat := 6
def F.osierlaw03_awake : Nat := 14
def F.dots_Less : Nat := 15
def F.dots_May : Nat := 16
def F.osierref03_May : Nat := 17
def F.osierref03_Less : Nat := 18
def F.dots_Rising : Nat := 19
def F.osierref03_In : Nat := 20
def F.osierref03_Same : Nat := 21
def F.dots_Minus : Nat := 22
def F.osierref03_Rising : Nat := 23
def F.dots_Union : Nat := 24
def F.dots_Meet : Nat := 25
def F.osierref03_Choose : Nat := 26
def F.dots_Places : Nat := 27
def F.dots_compare : Nat := 61
def F.dots_row : Nat := 62
def F.dots_set : Nat := 63
def F.osierref03_Put1 : Nat := 64
def F.slices_Concat_s_api_Dot_api_Dot : Nat := 65
def F.cmp_Or_int : Nat := 86
def F.cmp_Compare_int : Nat := 87
def F.slices_SortFunc_s_api_Dot_api_Dot : Nat := 88
def F.slices_Grow_s_api_Dot_api_Dot : Nat := 89
def F.cmp_isNaN_int : Nat := 96
end Go.Osj

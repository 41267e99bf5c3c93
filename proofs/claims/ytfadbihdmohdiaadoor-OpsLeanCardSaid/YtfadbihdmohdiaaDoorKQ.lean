/- What an operation leans on: plain facts. -/
import Derived.Test.YtfadbihdmohdiaaDoorKP
set_option linter.unusedVariables false
set_option linter.unusedSimpArgs false
set_option maxHeartbeats 1000000
namespace Go.Osj
def madeP (o : OpA) : Prop := o.id.2 = 1 ∧ o.kind = 3 ∧ o.block = o.id ∧ (o.parent = (0, -1) ∨ o.parent = (0, -2))
instance (o : OpA) : Decidable (madeP o) := inferInstanceAs (Decidable (_ ∧ _))
theorem hasP_nil (d : Dot) : ¬ hasP [] d := by
  rintro ⟨h1, h2⟩
  unfold mayP at h1
  simp [getV] at h2
  omega
theorem isV_nil' : isV [] := ⟨List.Pairwise.nil, by simp⟩
theorem may_lean {o : OpA} (h : mayO o) : mayO { o with deps := [] } ↔ madeP o := by
  obtain ⟨⟨h1, h2, h3, h4, h5⟩, h6⟩ := h
  constructor
  · rintro ⟨⟨-, -, -, -, g5⟩, g6⟩
    simp only [getV] at g5
    rcases g6 with ⟨k, g⟩ | ⟨k, g⟩ | ⟨k, g⟩
    · exact absurd g.2.2.2.1 (hasP_nil _)
    · exact absurd g.1 (hasP_nil _)
    · refine ⟨by omega, k, g.1.resolve_right (hasP_nil _), ?_⟩
      rcases g.2.1 with g | g | g
      · exact .inl g
      · exact .inr g
      · exact absurd g (hasP_nil _)
  · rintro ⟨g1, g2, g3, g4⟩
    refine ⟨⟨h1, h2, h3, isV_nil', by simp only [getV]; omega⟩, .inr (.inr ⟨g2, ?_⟩)⟩
    rcases h6 with ⟨k, g⟩ | ⟨k, g⟩ | ⟨k, g⟩
    · omega
    · omega
    · exact ⟨.inl g3, g4.elim .inl (fun g => .inr (.inl g)), g.2.2⟩
theorem not_may_time {o : OpA} : ¬ mayO { o with time := 0 } := by
  rintro ⟨⟨-, h, -⟩, -⟩
  simp at h
theorem not_may_seq {o : OpA} (h : mayO o) : ¬ mayO { o with id := (o.id.1, o.id.2 + 1) } := by
  rintro ⟨⟨-, -, -, -, g⟩, -⟩
  have := h.1.2.2.2.2
  simp only at g
  omega
end Go.Osj

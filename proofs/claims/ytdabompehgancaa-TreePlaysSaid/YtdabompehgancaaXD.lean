/- Trees of blocks: paths. -/
import Derived.Test.YtdabompehgancaaXC
import Derived.Test.YtdabompehgancaaXR
set_option linter.unusedSimpArgs false
set_option linter.unusedVariables false
namespace Go.Osj
theorem OkS.last {sp : Sp} (ok : OkS sp) {b : Dot'} {l : List Dot'} (h : Pth sp b l) : ∀ x ∈ l.getLast?, alwaysP x := by
  induction h with
  | stop _ => simp
  | @up b s l hs hl ih =>
    intro x hx
    cases hl with
    | stop hn =>
      obtain rfl : s.1 = x := by simpa using hx
      rcases ok.up b s hs with h | h
      · exact h
      · rw [hn] at h; cases h
    | @up _ s' l' hs' hl' =>
      rw [List.getLast?_cons_cons] at hx
      exact ih x hx
theorem OkS.path_some {sp : Sp} (ok : OkS sp) {b : Dot'} {s : Spot} (h : alook b sp = some s) : ∃ l, pathA sp b = s.1 :: l ∧ b ∉ s.1 :: l ∧ (s.1 :: l).Nodup ∧ ∃ x, (s.1 :: l).getLast? = some x ∧ alwaysP x := by
  have hp := ok.pth b
  have hn := hp.nodup
  have hl := ok.last hp
  cases hq : pathA sp b with
  | nil =>
    rw [hq] at hp
    cases hp with
    | stop g => rw [h] at g; cases g
  | cons y l =>
    rw [hq] at hp hn hl
    cases hp with
    | up g _ =>
      rw [h] at g
      injection g with g
      subst g
      obtain ⟨h1, h2⟩ := List.nodup_cons.1 hn
      exact ⟨l, rfl, h1, h2, (s.1 :: l).getLast (by simp), List.getLast?_eq_some_getLast (by simp), hl _ (List.getLast?_eq_some_getLast (by simp))⟩
theorem IsKids.once {sp : Sp} {p b : Dot'} {l : List Dot'} {s : Spot} (h : IsKids sp p l) (hb : alook b sp = some s) (hs : s.1 = p) : l.count b = 1 := by
  have hn : l.Nodup := h.rises.imp fun {x y} (h : kltP sp x y) (e : x = y) => kltP_irrefl sp x (by rw [← e] at h; exact h)
  rw [hn.count, if_pos ((h.mem b).2 ⟨s, hb, hs⟩)]
end Go.Osj

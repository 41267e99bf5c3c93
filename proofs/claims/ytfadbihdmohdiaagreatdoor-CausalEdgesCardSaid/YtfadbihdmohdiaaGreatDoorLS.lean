/- Operations compared. -/
import Derived.Test.YtfadbihdmohdiaaGreatDoorGB
set_option linter.unusedVariables false
set_option linter.unusedSimpArgs false
set_option maxHeartbeats 1000000
namespace Go.Osj
theorem OpA.ext' {a b : OpA} (h1 : a.id = b.id) (h2 : a.time = b.time) (h3 : a.deps = b.deps) (h4 : a.kind = b.kind) (h5 : a.block = b.block) (h6 : a.at_ = b.at_) (h7 : a.side = b.side) (h8 : a.char = b.char) (h9 : a.parent = b.parent) (h10 : a.key = b.key) : a = b := by
  cases a; cases b; simp_all
theorem F.osierref07_Same_J {S : St} {a b : OpA} {da db : Value} (ha : SlT dotE S da a.deps) (hb : SlT dotE S db b.deps) (hL : a.deps.length < 1000000) :
    J PR F.osierref07_Same [opV a da, opV b db] S fun v S' => (∃ t, v = .bool t ∧ (t = true ↔ a = b)) ∧ S = S' := by
  refine J.back (J_by PR.mixed F.osierref07_Same.ok (by simp) ?_)
  simp (disch := omega) only [go_sem, simprocAttr]
  refine wE_boxO (o := a) (dv := da) rfl fun x S1 he1 hx hxn => ?_
  simp (disch := omega) only [go_sem, simprocAttr]
  refine wE_boxO (o := b) (dv := db) rfl fun y S2 he2 hy hyn => ?_
  have he := he1.trans he2
  have hc1 := (hx.ext he2).c
  have hc2 := hy.c
  have nk : a ≠ b → ∃ t, Value.bool false = Value.bool t ∧ (t = true ↔ a = b) := fun h => ⟨false, rfl, by simp [h]⟩
  simp (disch := omega) only [go_sem, simprocAttr, hc1, hc2]
  refine wJ_of (F.osierref04_Same_J (ha.ext dotE he) (hb.ext dotE he) (by omega)) ?_; rintro _ _ ⟨rfl, rfl⟩
  by_cases e1 : a.deps = b.deps
  rotate_left
  · simp (disch := omega) only [go_sem, simprocAttr, hc1, hc2, e1]
    exact ⟨nk fun h => e1 (h ▸ rfl), he⟩
  by_cases e2 : a.id = b.id
  rotate_left
  · have f2 := (eqV_dot a.id b.id).trans (congrArg some (decide_eq_false e2))
    simp (disch := omega) only [go_sem, simprocAttr, hc1, hc2, e1, f2]
    exact ⟨nk fun h => e2 (h ▸ rfl), he⟩
  have f2 := (eqV_dot a.id b.id).trans (congrArg some (decide_eq_true e2))
  by_cases e3 : a.time = b.time
  rotate_left
  · simp (disch := omega) only [go_sem, simprocAttr, hc1, hc2, e1, f2, e3]
    exact ⟨nk fun h => e3 (h ▸ rfl), he⟩
  by_cases e4 : a.kind = b.kind
  rotate_left
  · simp (disch := omega) only [go_sem, simprocAttr, hc1, hc2, e1, f2, e3, e4]
    exact ⟨nk fun h => e4 (h ▸ rfl), he⟩
  by_cases e5 : a.block = b.block
  rotate_left
  · have f5 := (eqV_dot a.block b.block).trans (congrArg some (decide_eq_false e5))
    simp (disch := omega) only [go_sem, simprocAttr, hc1, hc2, e1, f2, e3, e4, f5]
    exact ⟨nk fun h => e5 (h ▸ rfl), he⟩
  have f5 := (eqV_dot a.block b.block).trans (congrArg some (decide_eq_true e5))
  by_cases e6 : a.at_ = b.at_
  rotate_left
  · have f6 := (eqV_dot a.at_ b.at_).trans (congrArg some (decide_eq_false e6))
    simp (disch := omega) only [go_sem, simprocAttr, hc1, hc2, e1, f2, e3, e4, f5, f6]
    exact ⟨nk fun h => e6 (h ▸ rfl), he⟩
  have f6 := (eqV_dot a.at_ b.at_).trans (congrArg some (decide_eq_true e6))
  by_cases e7 : a.side = b.side
  rotate_left
  · simp (disch := omega) only [go_sem, simprocAttr, hc1, hc2, e1, f2, e3, e4, f5, f6, e7]
    exact ⟨nk fun h => e7 (h ▸ rfl), he⟩
  by_cases e8 : a.char = b.char
  rotate_left
  · simp (disch := omega) only [go_sem, simprocAttr, hc1, hc2, e1, f2, e3, e4, f5, f6, e7, e8]
    exact ⟨nk fun h => e8 (h ▸ rfl), he⟩
  by_cases e9 : a.parent = b.parent
  rotate_left
  · have f9 := (eqV_dot a.parent b.parent).trans (congrArg some (decide_eq_false e9))
    simp (disch := omega) only [go_sem, simprocAttr, hc1, hc2, e1, f2, e3, e4, f5, f6, e7, e8, f9]
    exact ⟨nk fun h => e9 (h ▸ rfl), he⟩
  have f9 := (eqV_dot a.parent b.parent).trans (congrArg some (decide_eq_true e9))
  have ek : (a.key == b.key) = decide (a.key = b.key) := ba_beq _ _
  by_cases e10 : a.key = b.key
  rotate_left
  · rw [decide_eq_false e10] at ek
    simp (disch := omega) only [go_sem, simprocAttr, hc1, hc2, e1, f2, e3, e4, f5, f6, e7, e8, f9, ek]
    exact ⟨nk fun h => e10 (h ▸ rfl), he⟩
  rw [decide_eq_true e10] at ek
  simp (disch := omega) only [go_sem, simprocAttr, hc1, hc2, e1, f2, e3, e4, f5, f6, e7, e8, f9, ek]
  exact ⟨⟨true, rfl, by simp only [true_iff]; exact OpA.ext' e2 e3 e1 e4 e5 e6 e7 e8 e9 e10⟩, he⟩
end Go.Osj

/- Whether an operation can be taken in; which comes ahead. -/
import Derived.Test.YtfadbihdmohdiaaGreatDoorLA
import Derived.Test.YtfadbihdmohdiaaGreatDoorGD
set_option linter.unusedVariables false
set_option linter.unusedSimpArgs false
set_option maxHeartbeats 1000000
namespace Go.Osj
theorem F.dots_Less_P' {S : St} {a b : Dot} : J PR F.dots_Less [dotV a, dotV b] S fun v S' => v = .bool (decide (lessP a b)) ∧ S = S' := F.dots_Less.J.back
theorem F.osierref03_Less_P' {S : St} {a b : Dot} : J PR F.osierref03_Less [dotV a, dotV b] S fun v S' => v = .bool (decide (lessP a b)) ∧ S = S' := F.osierref03_Less.J.back
theorem F.ops_Less_J {S : St} {a b : OpA} {da db : Value} : J PR F.ops_Less [opV a da, opV b db] S fun v S' => v = .bool (decide (lessO a b)) ∧ S = S' := by
  refine J.back (J_by PR.mixed F.ops_Less.ok (by simp) ?_)
  simp (disch := omega) only [go_sem, simprocAttr]
  refine wE_boxO (o := a) (dv := da) rfl fun x S1 e1 hx hxn => ?_
  simp (disch := omega) only [go_sem, simprocAttr]
  refine wE_boxO (o := b) (dv := db) rfl fun y S2 e2 hy hyn => ?_
  have cx := (hx.ext e2).c
  have cy := hy.c
  have e := e1.trans e2
  simp (disch := omega) only [go_sem, simprocAttr, cx, cy]
  by_cases h : a.time = b.time
  · simp (disch := omega) only [go_sem, simprocAttr, cx, cy, h]
    refine wJ_of (F.dots_Less_P' (a := a.id) (b := b.id)) ?_; rintro _ _ ⟨rfl, rfl⟩
    simp (disch := omega) only [go_sem, simprocAttr]
    exact ⟨vb_dec (by unfold lessO; simp [h]), e⟩
  · simp (disch := omega) only [go_sem, simprocAttr, cx, cy, h]
    exact ⟨vb_dec (by unfold lessO; simp [h]), e⟩
theorem F.osierref07_Less_J {S : St} {a b : OpA} {da db : Value} : J PR F.osierref07_Less [opV a da, opV b db] S fun v S' => v = .bool (decide (lessO a b)) ∧ S = S' := by
  refine J.back (J_by PR.mixed F.osierref07_Less.ok (by simp) ?_)
  simp (disch := omega) only [go_sem, simprocAttr]
  refine wE_boxO (o := a) (dv := da) rfl fun x S1 e1 hx hxn => ?_
  simp (disch := omega) only [go_sem, simprocAttr]
  refine wE_boxO (o := b) (dv := db) rfl fun y S2 e2 hy hyn => ?_
  have cx := (hx.ext e2).c
  have cy := hy.c
  have e := e1.trans e2
  simp (disch := omega) only [go_sem, simprocAttr, cx, cy]
  by_cases h : a.time = b.time
  · simp (disch := omega) only [go_sem, simprocAttr, cx, cy, h]
    refine wJ_of (F.osierref03_Less_P' (a := a.id) (b := b.id)) ?_; rintro _ _ ⟨rfl, rfl⟩
    simp (disch := omega) only [go_sem, simprocAttr]
    exact ⟨vb_dec (by unfold lessO; simp [h]), e⟩
  · simp (disch := omega) only [go_sem, simprocAttr, cx, cy, h]
    exact ⟨vb_dec (by unfold lessO; simp [h]), e⟩
theorem F.causal_compare_J {S : St} {a b : OpA} {da db : Value} : J PR F.causal_compare [opV a da, opV b db] S fun v S' => (∃ c : Int, v = .int .i64 c ∧ (c < 0 ↔ lessO a b)) ∧ S = S' := by
  refine J.back (J_by PR.mixed F.causal_compare.ok (by simp) ?_)
  simp (disch := omega) only [go_sem, simprocAttr]
  refine wE_boxO (o := a) (dv := da) rfl fun x S1 e1 hx hxn => ?_
  simp (disch := omega) only [go_sem, simprocAttr]
  refine wE_boxO (o := b) (dv := db) rfl fun y S2 e2 hy hyn => ?_
  have cx := (hx.ext e2).c
  have cy := hy.c
  have e := e1.trans e2
  simp (disch := omega) only [go_sem, simprocAttr, cx, cy, opC_len, opC_toList]
  refine wJ_of (F.ops_Less_J (a := a) (b := b) (da := da) (db := db)) ?_; rintro _ _ ⟨rfl, rfl⟩
  by_cases h : lessO a b
  · simp (disch := omega) only [go_sem, simprocAttr, h]
    exact ⟨⟨-1, rfl, by simp [h]⟩, e⟩
  · simp (disch := omega) only [go_sem, simprocAttr, h, cx, cy, opC_len, opC_toList]
    refine wJ_of (F.ops_Less_J (a := b) (b := a) (da := db) (db := da)) ?_; rintro _ _ ⟨rfl, rfl⟩
    by_cases h2 : lessO b a
    · simp (disch := omega) only [go_sem, simprocAttr, h2]
      exact ⟨⟨1, rfl, by simp [h]⟩, e⟩
    · simp (disch := omega) only [go_sem, simprocAttr, h2]
      exact ⟨⟨0, rfl, by simp [h]⟩, e⟩
theorem F.causal_Ready_J {S : St} {l dv : Value} {v : List Dot} {o : OpA} (hl : SlT dotE S l v) (hd : SlT dotE S dv o.deps) (hL : v.length < 9223372036854775808) (hD : o.deps.length < 9223372036854775808) :
    J PR F.causal_Ready [l, opV o dv] S fun r S' => r = .int .i64 (readyA v o) ∧ S = S' := by
  obtain ⟨base, cap, rfl⟩ := hl.len dotE
  obtain ⟨base2, cap2, rfl⟩ := hd.len dotE
  refine J.back (J_by PR.mixed F.causal_Ready.ok (by simp) ?_)
  simp (disch := omega) only [go_sem, simprocAttr]
  refine wE_boxO (o := o) (dv := .slice base2 o.deps.length cap2) rfl fun x S1 e1 hx hxn => ?_
  have cx := hx.c
  have hl1 := hl.ext dotE e1
  have hd1 := hd.ext dotE e1
  unfold readyA
  simp (disch := omega) only [go_sem, simprocAttr, cx, opC_len, opC_toList]
  refine wJ_of (F.ops_Check_J (o := o) hd1 hD) ?_; rintro _ _ ⟨rfl, rfl⟩
  by_cases h1 : mayO o
  · simp (disch := omega) only [go_sem, simprocAttr, h1, cx]
    refine wJ_of (F.vector_Has_J (d := o.id) hl1 hL) ?_; rintro _ _ ⟨rfl, rfl⟩
    by_cases h2 : hasP v o.id
    · simp (disch := omega) only [go_sem, simprocAttr, h2]
      exact ⟨by simp [h1], e1⟩
    · simp (disch := omega) only [go_sem, simprocAttr, h2, cx]
      refine wJ_of (F.vector_Below_J hd1 hl1 hD hL) ?_; rintro _ _ ⟨rfl, rfl⟩
      by_cases h3 : belowP o.deps v
      · simp (disch := omega) only [go_sem, simprocAttr, h3]
        exact ⟨by simp [h1, h2], e1⟩
      · simp (disch := omega) only [go_sem, simprocAttr, h3]
        exact ⟨by simp [h1, h2], e1⟩
  · simp (disch := omega) only [go_sem, simprocAttr, h1]
    exact e1
theorem F.osierref08_Ready_J {S : St} {l dv : Value} {v : List Dot} {o : OpA} (hl : SlT dotE S l v) (hd : SlT dotE S dv o.deps) (hL : v.length < 9223372036854775808) (hD : o.deps.length < 9223372036854775808) :
    J PR F.osierref08_Ready [l, opV o dv] S fun r S' => r = .int .i64 (readyA v o) ∧ S = S' := by
  obtain ⟨base, cap, rfl⟩ := hl.len dotE
  obtain ⟨base2, cap2, rfl⟩ := hd.len dotE
  refine J.back (J_by PR.mixed F.osierref08_Ready.ok (by simp) ?_)
  simp (disch := omega) only [go_sem, simprocAttr]
  refine wE_boxO (o := o) (dv := .slice base2 o.deps.length cap2) rfl fun x S1 e1 hx hxn => ?_
  have cx := hx.c
  have hl1 := hl.ext dotE e1
  have hd1 := hd.ext dotE e1
  unfold readyA
  simp (disch := omega) only [go_sem, simprocAttr, cx, opC_len, opC_toList]
  refine wJ_of (F.osierref07_Check_J (o := o) hd1 hD) ?_; rintro _ _ ⟨rfl, rfl⟩
  by_cases h1 : mayO o
  · simp (disch := omega) only [go_sem, simprocAttr, h1, cx]
    refine wJ_of (F.osierref04_Has_J (d := o.id) hl1 hL) ?_; rintro _ _ ⟨rfl, rfl⟩
    by_cases h2 : hasP v o.id
    · simp (disch := omega) only [go_sem, simprocAttr, h2]
      exact ⟨by simp [h1], e1⟩
    · simp (disch := omega) only [go_sem, simprocAttr, h2, cx]
      refine wJ_of (F.osierref04_Below_J hd1 hl1 hD hL) ?_; rintro _ _ ⟨rfl, rfl⟩
      by_cases h3 : belowP o.deps v
      · simp (disch := omega) only [go_sem, simprocAttr, h3]
        exact ⟨by simp [h1, h2], e1⟩
      · simp (disch := omega) only [go_sem, simprocAttr, h3]
        exact ⟨by simp [h1, h2], e1⟩
  · simp (disch := omega) only [go_sem, simprocAttr, h1]
    exact e1
theorem F.causal_Ahead_J {S : St} {da db : Value} {a b : OpA} (hd : SlT dotE S db b.deps) (hD : b.deps.length < 9223372036854775808) :
    J PR F.causal_Ahead [opV a da, opV b db] S fun r S' => r = .bool (decide (hasP b.deps a.id)) ∧ S = S' := by
  obtain ⟨base2, cap2, rfl⟩ := hd.len dotE
  refine J.back (J_by PR.mixed F.causal_Ahead.ok (by simp) ?_)
  simp (disch := omega) only [go_sem, simprocAttr]
  refine wE_boxO (o := a) (dv := da) rfl fun x S1 e1 hx hxn => ?_
  simp (disch := omega) only [go_sem, simprocAttr]
  refine wE_boxO (o := b) (dv := .slice base2 b.deps.length cap2) rfl fun y S2 e2 hy hyn => ?_
  have cx := (hx.ext e2).c
  have cy := hy.c
  have e := e1.trans e2
  simp (disch := omega) only [go_sem, simprocAttr, cx, cy]
  refine wJ_of (F.vector_Has_J (d := a.id) (hd.ext dotE e) hD) ?_; rintro _ _ ⟨rfl, rfl⟩
  simp (disch := omega) only [go_sem, simprocAttr]
  exact e
end Go.Osj

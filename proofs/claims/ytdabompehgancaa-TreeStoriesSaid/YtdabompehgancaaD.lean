/- Contracts of the functions of layer 3: dots. -/
import Derived.Test.YtdabompehgancaaC1
import Derived.Test.YtdabompehgancaaC2
import Derived.Test.YtdabompehgancaaC3
import Derived.Test.YtdabompehgancaaL
import Derived.Test.YtdabompehgancaaOsjQ
set_option linter.unusedVariables false
set_option linter.unusedSimpArgs false
namespace Go.Osj
theorem F.cmp_isNaN_int.J {S : St} {a : Int} : J PR F.cmp_isNaN_int [.int .i64 a] S fun v S' => v = .bool false ∧ S' = S := by
  refine J_by PR.mixed F.cmp_isNaN_int.ok (by simp) ?_
  simp (disch := omega) only [go_sem, ↓reduceIte, Nat.reduceEqDiff, Nat.reduceAdd, Nat.reduceMul, Nat.reduceSub, Nat.reduceLT, Nat.reduceLeDiff, Nat.reduceBEq, reduceCtorEq, Int.reduceLT, Int.reduceEq, Int.reduceLE, Int.reduceAdd, Int.reduceSub, Int.reduceToNat, Int.reduceNeg]
theorem F.cmp_Compare_int.J {S : St} {a b : Int} : J PR F.cmp_Compare_int [.int .i64 a, .int .i64 b] S fun v S' => v = .int .i64 (if a < b then -1 else if b < a then 1 else 0) ∧ S' = S := by
  refine J_by PR.mixed F.cmp_Compare_int.ok (by simp) ?_
  simp (disch := omega) only [go_sem, ↓reduceIte, Nat.reduceEqDiff, Nat.reduceAdd, Nat.reduceMul, Nat.reduceSub, Nat.reduceLT, Nat.reduceLeDiff, Nat.reduceBEq, reduceCtorEq, Int.reduceLT, Int.reduceEq, Int.reduceLE, Int.reduceAdd, Int.reduceSub, Int.reduceToNat, Int.reduceNeg]
  refine wJ_of F.cmp_isNaN_int.J ?_; rintro _ _ ⟨rfl, rfl⟩
  simp (disch := omega) only [go_sem, ↓reduceIte, Nat.reduceEqDiff, Nat.reduceAdd, Nat.reduceMul, Nat.reduceSub, Nat.reduceLT, Nat.reduceLeDiff, Nat.reduceBEq, reduceCtorEq, Int.reduceLT, Int.reduceEq, Int.reduceLE, Int.reduceAdd, Int.reduceSub, Int.reduceToNat, Int.reduceNeg]
  refine wJ_of F.cmp_isNaN_int.J ?_; rintro _ _ ⟨rfl, rfl⟩
  simp (disch := omega) only [go_sem, ↓reduceIte, Nat.reduceEqDiff, Nat.reduceAdd, Nat.reduceMul, Nat.reduceSub, Nat.reduceLT, Nat.reduceLeDiff, Nat.reduceBEq, reduceCtorEq, Int.reduceLT, Int.reduceEq, Int.reduceLE, Int.reduceAdd, Int.reduceSub, Int.reduceToNat, Int.reduceNeg]
  refine wcond_dec (fun h => ?_) (fun h => ?_)
  · simp (disch := omega) only [go_sem, ↓reduceIte, Nat.reduceEqDiff, Nat.reduceAdd, Nat.reduceMul, Nat.reduceSub, Nat.reduceLT, Nat.reduceLeDiff, Nat.reduceBEq, reduceCtorEq, Int.reduceLT, Int.reduceEq, Int.reduceLE, Int.reduceAdd, Int.reduceSub, Int.reduceToNat, Int.reduceNeg, h]
  · simp (disch := omega) only [go_sem, ↓reduceIte, Nat.reduceEqDiff, Nat.reduceAdd, Nat.reduceMul, Nat.reduceSub, Nat.reduceLT, Nat.reduceLeDiff, Nat.reduceBEq, reduceCtorEq, Int.reduceLT, Int.reduceEq, Int.reduceLE, Int.reduceAdd, Int.reduceSub, Int.reduceToNat, Int.reduceNeg]
    refine wcond_dec (fun h => ?_) (fun h => ?_)
    · simp (disch := omega) only [go_sem, ↓reduceIte, Nat.reduceEqDiff, Nat.reduceAdd, Nat.reduceMul, Nat.reduceSub, Nat.reduceLT, Nat.reduceLeDiff, Nat.reduceBEq, reduceCtorEq, Int.reduceLT, Int.reduceEq, Int.reduceLE, Int.reduceAdd, Int.reduceSub, Int.reduceToNat, Int.reduceNeg]
      simp [*]
    · simp (disch := omega) only [go_sem, ↓reduceIte, Nat.reduceEqDiff, Nat.reduceAdd, Nat.reduceMul, Nat.reduceSub, Nat.reduceLT, Nat.reduceLeDiff, Nat.reduceBEq, reduceCtorEq, Int.reduceLT, Int.reduceEq, Int.reduceLE, Int.reduceAdd, Int.reduceSub, Int.reduceToNat, Int.reduceNeg]
      simp [*]
theorem F.cmp_Or_int.J {S : St} {b : Nat} {x y : Int} (hb : S.obj b = some (.cells true 2 [.int .i64 x, .int .i64 y])) : J PR F.cmp_Or_int [.slice (some ⟨b, 0, none⟩) 2 2] S fun v S' => v = .int .i64 (if x ≠ 0 then x else y) ∧ S' = S := by
  refine J_by PR.mixed F.cmp_Or_int.ok (by simp) ?_
  simp (disch := omega) only [go_sem, ↓reduceIte, Nat.reduceEqDiff, Nat.reduceAdd, Nat.reduceMul, Nat.reduceSub, Nat.reduceLT, Nat.reduceLeDiff, Nat.reduceBEq, reduceCtorEq, Int.reduceLT, Int.reduceEq, Int.reduceLE, Int.reduceAdd, Int.reduceSub, Int.reduceToNat, Int.reduceNeg]
  refine wC_unroll ?_
  simp (disch := omega) only [go_sem, ↓reduceIte, Nat.reduceEqDiff, Nat.reduceAdd, Nat.reduceMul, Nat.reduceSub, Nat.reduceLT, Nat.reduceLeDiff, Nat.reduceBEq, reduceCtorEq, Int.reduceLT, Int.reduceEq, Int.reduceLE, Int.reduceAdd, Int.reduceSub, Int.reduceToNat, Int.reduceNeg, F.cmp_Or_int.l0, St.cell_def, hb]
  refine wcond_ndec (fun h => ?_) (fun h => ?_)
  · simp (disch := omega) only [go_sem, ↓reduceIte, Nat.reduceEqDiff, Nat.reduceAdd, Nat.reduceMul, Nat.reduceSub, Nat.reduceLT, Nat.reduceLeDiff, Nat.reduceBEq, reduceCtorEq, Int.reduceLT, Int.reduceEq, Int.reduceLE, Int.reduceAdd, Int.reduceSub, Int.reduceToNat, Int.reduceNeg]
    simp [h]
  · simp (disch := omega) only [go_sem, ↓reduceIte, Nat.reduceEqDiff, Nat.reduceAdd, Nat.reduceMul, Nat.reduceSub, Nat.reduceLT, Nat.reduceLeDiff, Nat.reduceBEq, reduceCtorEq, Int.reduceLT, Int.reduceEq, Int.reduceLE, Int.reduceAdd, Int.reduceSub, Int.reduceToNat, Int.reduceNeg]
    refine wC_unroll ?_
    simp (disch := omega) only [go_sem, ↓reduceIte, Nat.reduceEqDiff, Nat.reduceAdd, Nat.reduceMul, Nat.reduceSub, Nat.reduceLT, Nat.reduceLeDiff, Nat.reduceBEq, reduceCtorEq, Int.reduceLT, Int.reduceEq, Int.reduceLE, Int.reduceAdd, Int.reduceSub, Int.reduceToNat, Int.reduceNeg, F.cmp_Or_int.l0, St.cell_def, hb]
    refine wcond_ndec (fun h2 => ?_) (fun h2 => ?_)
    · simp (disch := omega) only [go_sem, ↓reduceIte, Nat.reduceEqDiff, Nat.reduceAdd, Nat.reduceMul, Nat.reduceSub, Nat.reduceLT, Nat.reduceLeDiff, Nat.reduceBEq, reduceCtorEq, Int.reduceLT, Int.reduceEq, Int.reduceLE, Int.reduceAdd, Int.reduceSub, Int.reduceToNat, Int.reduceNeg]
      simp [h]
    · simp (disch := omega) only [go_sem, ↓reduceIte, Nat.reduceEqDiff, Nat.reduceAdd, Nat.reduceMul, Nat.reduceSub, Nat.reduceLT, Nat.reduceLeDiff, Nat.reduceBEq, reduceCtorEq, Int.reduceLT, Int.reduceEq, Int.reduceLE, Int.reduceAdd, Int.reduceSub, Int.reduceToNat, Int.reduceNeg]
      refine wC_unroll ?_
      simp (disch := omega) only [go_sem, ↓reduceIte, Nat.reduceEqDiff, Nat.reduceAdd, Nat.reduceMul, Nat.reduceSub, Nat.reduceLT, Nat.reduceLeDiff, Nat.reduceBEq, reduceCtorEq, Int.reduceLT, Int.reduceEq, Int.reduceLE, Int.reduceAdd, Int.reduceSub, Int.reduceToNat, Int.reduceNeg, F.cmp_Or_int.l0, St.cell_def, hb]
      simp [h, h2]
theorem F.dots_compare.J {S : St} {a b : Int × Int} : J PR F.dots_compare [dotV a, dotV b] S fun v S' => v = .int .i64 (compareD a b) ∧ S.Ext S' := by
  refine J_by PR.mixed F.dots_compare.ok (by simp) ?_
  simp (disch := omega) only [go_sem, ↓reduceIte, Nat.reduceEqDiff, Nat.reduceAdd, Nat.reduceMul, Nat.reduceSub, Nat.reduceLT, Nat.reduceLeDiff, Nat.reduceBEq, reduceCtorEq, Int.reduceLT, Int.reduceEq, Int.reduceLE, Int.reduceAdd, Int.reduceSub, Int.reduceToNat, Int.reduceNeg]
  refine wfresh_of fun x hx => ?_
  simp (disch := omega) only [go_sem, ↓reduceIte, Nat.reduceEqDiff, Nat.reduceAdd, Nat.reduceMul, Nat.reduceSub, Nat.reduceLT, Nat.reduceLeDiff, Nat.reduceBEq, reduceCtorEq, Int.reduceLT, Int.reduceEq, Int.reduceLE, Int.reduceAdd, Int.reduceSub, Int.reduceToNat, Int.reduceNeg]
  refine wfresh_of fun y hy => ?_
  simp (disch := omega) only [go_sem, ↓reduceIte, Nat.reduceEqDiff, Nat.reduceAdd, Nat.reduceMul, Nat.reduceSub, Nat.reduceLT, Nat.reduceLeDiff, Nat.reduceBEq, reduceCtorEq, Int.reduceLT, Int.reduceEq, Int.reduceLE, Int.reduceAdd, Int.reduceSub, Int.reduceToNat, Int.reduceNeg]
  refine wJ_of F.cmp_Compare_int.J ?_; rintro _ _ ⟨rfl, rfl⟩
  simp (disch := omega) only [go_sem, ↓reduceIte, Nat.reduceEqDiff, Nat.reduceAdd, Nat.reduceMul, Nat.reduceSub, Nat.reduceLT, Nat.reduceLeDiff, Nat.reduceBEq, reduceCtorEq, Int.reduceLT, Int.reduceEq, Int.reduceLE, Int.reduceAdd, Int.reduceSub, Int.reduceToNat, Int.reduceNeg]
  refine wJ_of F.cmp_Compare_int.J ?_; rintro _ _ ⟨rfl, rfl⟩
  simp (disch := omega) only [go_sem, ↓reduceIte, Nat.reduceEqDiff, Nat.reduceAdd, Nat.reduceMul, Nat.reduceSub, Nat.reduceLT, Nat.reduceLeDiff, Nat.reduceBEq, reduceCtorEq, Int.reduceLT, Int.reduceEq, Int.reduceLE, Int.reduceAdd, Int.reduceSub, Int.reduceToNat, Int.reduceNeg]
  refine wfresh_of fun z hz => ?_
  simp (disch := omega) only [go_sem, ↓reduceIte, Nat.reduceEqDiff, Nat.reduceAdd, Nat.reduceMul, Nat.reduceSub, Nat.reduceLT, Nat.reduceLeDiff, Nat.reduceBEq, reduceCtorEq, Int.reduceLT, Int.reduceEq, Int.reduceLE, Int.reduceAdd, Int.reduceSub, Int.reduceToNat, Int.reduceNeg]
  refine wJ_of (F.cmp_Or_int.J (St.put_same ..)) ?_; rintro _ _ ⟨rfl, rfl⟩
  simp (disch := omega) only [go_sem, ↓reduceIte, Nat.reduceEqDiff, Nat.reduceAdd, Nat.reduceMul, Nat.reduceSub, Nat.reduceLT, Nat.reduceLeDiff, Nat.reduceBEq, reduceCtorEq, Int.reduceLT, Int.reduceEq, Int.reduceLE, Int.reduceAdd, Int.reduceSub, Int.reduceToNat, Int.reduceNeg]
  refine ⟨?_, (((St.Ext.refl S).put hx _).put (by rw [St.put_n]; exact hy) _).put (by rw [St.put_n, St.put_n]; exact hz) _⟩
  unfold compareD
  repeat' split
  all_goals first | rfl | omega | contradiction

def mayP (a : Dot) : Prop := 0 ≤ a.1 ∧ a.1 < 16777216 ∧ 1 ≤ a.2 ∧ a.2 ≤ 1073741824
instance (a : Dot) : Decidable (mayP a) := inferInstanceAs (Decidable (_ ∧ _))
theorem F.osierref03_May.J {S : St} {a : Dot} : J PR F.osierref03_May [dotV a] S fun v S' => v = .bool (decide (mayP a)) ∧ S.Ext S' := by
  refine J_by PR.mixed F.osierref03_May.ok (by simp) ?_
  simp (disch := omega) only [go_sem, ↓reduceIte, Nat.reduceEqDiff, Nat.reduceAdd, Nat.reduceMul, Nat.reduceSub, Nat.reduceLT, Nat.reduceLeDiff, Nat.reduceBEq, reduceCtorEq, Int.reduceLT, Int.reduceEq, Int.reduceLE, Int.reduceAdd, Int.reduceSub, Int.reduceToNat, Int.reduceNeg]
  refine wfresh_of fun x hx => ?_
  simp (disch := omega) only [go_sem, ↓reduceIte, Nat.reduceEqDiff, Nat.reduceAdd, Nat.reduceMul, Nat.reduceSub, Nat.reduceLT, Nat.reduceLeDiff, Nat.reduceBEq, reduceCtorEq, Int.reduceLT, Int.reduceEq, Int.reduceLE, Int.reduceAdd, Int.reduceSub, Int.reduceToNat, Int.reduceNeg]
  have he := (St.Ext.refl S).put hx (.cells true 2 [.int .i64 a.1, .int .i64 a.2])
  unfold mayP
  refine wguard_dec (fun h1 => ?_) (fun h1 => ?_)
  · simp (disch := omega) only [go_sem, ↓reduceIte, Nat.reduceEqDiff, Nat.reduceAdd, Nat.reduceMul, Nat.reduceSub, Nat.reduceLT, Nat.reduceLeDiff, Nat.reduceBEq, reduceCtorEq, Int.reduceLT, Int.reduceEq, Int.reduceLE, Int.reduceAdd, Int.reduceSub, Int.reduceToNat, Int.reduceNeg, h1]
    refine wguard_dec (fun h2 => ?_) (fun h2 => ?_)
    · simp (disch := omega) only [go_sem, ↓reduceIte, Nat.reduceEqDiff, Nat.reduceAdd, Nat.reduceMul, Nat.reduceSub, Nat.reduceLT, Nat.reduceLeDiff, Nat.reduceBEq, reduceCtorEq, Int.reduceLT, Int.reduceEq, Int.reduceLE, Int.reduceAdd, Int.reduceSub, Int.reduceToNat, Int.reduceNeg, h2]
      refine wguard_dec (fun h3 => ?_) (fun h3 => ?_)
      · simp (disch := omega) only [go_sem, ↓reduceIte, Nat.reduceEqDiff, Nat.reduceAdd, Nat.reduceMul, Nat.reduceSub, Nat.reduceLT, Nat.reduceLeDiff, Nat.reduceBEq, reduceCtorEq, Int.reduceLT, Int.reduceEq, Int.reduceLE, Int.reduceAdd, Int.reduceSub, Int.reduceToNat, Int.reduceNeg, h3]
        exact ⟨by first | exact vb_dec (by omega) | exact vb_true (by omega) | exact vb_false (by omega) | exact vb_not (by omega) | (simp; done) | (simp; omega), he⟩
      · simp (disch := omega) only [go_sem, ↓reduceIte, Nat.reduceEqDiff, Nat.reduceAdd, Nat.reduceMul, Nat.reduceSub, Nat.reduceLT, Nat.reduceLeDiff, Nat.reduceBEq, reduceCtorEq, Int.reduceLT, Int.reduceEq, Int.reduceLE, Int.reduceAdd, Int.reduceSub, Int.reduceToNat, Int.reduceNeg, h3]
        exact ⟨by first | exact vb_dec (by omega) | exact vb_true (by omega) | exact vb_false (by omega) | exact vb_not (by omega) | (simp; done) | (simp; omega), he⟩
    · simp (disch := omega) only [go_sem, ↓reduceIte, Nat.reduceEqDiff, Nat.reduceAdd, Nat.reduceMul, Nat.reduceSub, Nat.reduceLT, Nat.reduceLeDiff, Nat.reduceBEq, reduceCtorEq, Int.reduceLT, Int.reduceEq, Int.reduceLE, Int.reduceAdd, Int.reduceSub, Int.reduceToNat, Int.reduceNeg, h2]
      exact ⟨by first | exact vb_dec (by omega) | exact vb_true (by omega) | exact vb_false (by omega) | exact vb_not (by omega) | (simp; done) | (simp; omega), he⟩
  · simp (disch := omega) only [go_sem, ↓reduceIte, Nat.reduceEqDiff, Nat.reduceAdd, Nat.reduceMul, Nat.reduceSub, Nat.reduceLT, Nat.reduceLeDiff, Nat.reduceBEq, reduceCtorEq, Int.reduceLT, Int.reduceEq, Int.reduceLE, Int.reduceAdd, Int.reduceSub, Int.reduceToNat, Int.reduceNeg, h1]
    exact ⟨by first | exact vb_dec (by omega) | exact vb_true (by omega) | exact vb_false (by omega) | exact vb_not (by omega) | (simp; done) | (simp; omega), he⟩
theorem F.dots_Less.J {S : St} {a b : Dot} : J PR F.dots_Less [dotV a, dotV b] S fun v S' => v = .bool (decide (lessP a b)) ∧ S.Ext S' := by
  refine J_by PR.mixed F.dots_Less.ok (by simp) ?_
  simp (disch := omega) only [go_sem, ↓reduceIte, Nat.reduceEqDiff, Nat.reduceAdd, Nat.reduceMul, Nat.reduceSub, Nat.reduceLT, Nat.reduceLeDiff, Nat.reduceBEq, reduceCtorEq, Int.reduceLT, Int.reduceEq, Int.reduceLE, Int.reduceAdd, Int.reduceSub, Int.reduceToNat, Int.reduceNeg]
  refine wfresh_of fun x hx => ?_
  simp (disch := omega) only [go_sem, ↓reduceIte, Nat.reduceEqDiff, Nat.reduceAdd, Nat.reduceMul, Nat.reduceSub, Nat.reduceLT, Nat.reduceLeDiff, Nat.reduceBEq, reduceCtorEq, Int.reduceLT, Int.reduceEq, Int.reduceLE, Int.reduceAdd, Int.reduceSub, Int.reduceToNat, Int.reduceNeg]
  refine wfresh_of fun y hy => ?_
  simp (disch := omega) only [go_sem, ↓reduceIte, Nat.reduceEqDiff, Nat.reduceAdd, Nat.reduceMul, Nat.reduceSub, Nat.reduceLT, Nat.reduceLeDiff, Nat.reduceBEq, reduceCtorEq, Int.reduceLT, Int.reduceEq, Int.reduceLE, Int.reduceAdd, Int.reduceSub, Int.reduceToNat, Int.reduceNeg, eqV_dot]
  have he := ((St.Ext.refl S).put hx (.cells true 2 [.int .i64 a.1, .int .i64 a.2])).put (by rw [St.put_n]; exact hy) (.cells true 2 [.int .i64 b.1, .int .i64 b.2])
  refine wguard_ndec (fun h1 => ?_) (fun h1 => ?_)
  · simp (disch := omega) only [go_sem, ↓reduceIte, Nat.reduceEqDiff, Nat.reduceAdd, Nat.reduceMul, Nat.reduceSub, Nat.reduceLT, Nat.reduceLeDiff, Nat.reduceBEq, reduceCtorEq, Int.reduceLT, Int.reduceEq, Int.reduceLE, Int.reduceAdd, Int.reduceSub, Int.reduceToNat, Int.reduceNeg, h1]
    refine wJ_of F.dots_compare.J ?_; rintro _ S' ⟨rfl, he'⟩
    simp (disch := omega) only [go_sem, ↓reduceIte, Nat.reduceEqDiff, Nat.reduceAdd, Nat.reduceMul, Nat.reduceSub, Nat.reduceLT, Nat.reduceLeDiff, Nat.reduceBEq, reduceCtorEq, Int.reduceLT, Int.reduceEq, Int.reduceLE, Int.reduceAdd, Int.reduceSub, Int.reduceToNat, Int.reduceNeg, h1]
    exact ⟨vb_dec (compareD_neg a b), he.trans he'⟩
  · subst h1
    simp (disch := omega) only [go_sem, ↓reduceIte, Nat.reduceEqDiff, Nat.reduceAdd, Nat.reduceMul, Nat.reduceSub, Nat.reduceLT, Nat.reduceLeDiff, Nat.reduceBEq, reduceCtorEq, Int.reduceLT, Int.reduceEq, Int.reduceLE, Int.reduceAdd, Int.reduceSub, Int.reduceToNat, Int.reduceNeg]
    exact ⟨vb_false (by unfold lessP; omega), he⟩
theorem F.osierref03_Less.J {S : St} {a b : Dot} : J PR F.osierref03_Less [dotV a, dotV b] S fun v S' => v = .bool (decide (lessP a b)) ∧ S.Ext S' := by
  refine J_by PR.mixed F.osierref03_Less.ok (by simp) ?_
  simp (disch := omega) only [go_sem, ↓reduceIte, Nat.reduceEqDiff, Nat.reduceAdd, Nat.reduceMul, Nat.reduceSub, Nat.reduceLT, Nat.reduceLeDiff, Nat.reduceBEq, reduceCtorEq, Int.reduceLT, Int.reduceEq, Int.reduceLE, Int.reduceAdd, Int.reduceSub, Int.reduceToNat, Int.reduceNeg]
  refine wfresh_of fun x hx => ?_
  simp (disch := omega) only [go_sem, ↓reduceIte, Nat.reduceEqDiff, Nat.reduceAdd, Nat.reduceMul, Nat.reduceSub, Nat.reduceLT, Nat.reduceLeDiff, Nat.reduceBEq, reduceCtorEq, Int.reduceLT, Int.reduceEq, Int.reduceLE, Int.reduceAdd, Int.reduceSub, Int.reduceToNat, Int.reduceNeg]
  refine wfresh_of fun y hy => ?_
  simp (disch := omega) only [go_sem, ↓reduceIte, Nat.reduceEqDiff, Nat.reduceAdd, Nat.reduceMul, Nat.reduceSub, Nat.reduceLT, Nat.reduceLeDiff, Nat.reduceBEq, reduceCtorEq, Int.reduceLT, Int.reduceEq, Int.reduceLE, Int.reduceAdd, Int.reduceSub, Int.reduceToNat, Int.reduceNeg]
  have he := ((St.Ext.refl S).put hx (.cells true 2 [.int .i64 a.1, .int .i64 a.2])).put (by rw [St.put_n]; exact hy) (.cells true 2 [.int .i64 b.1, .int .i64 b.2])
  unfold lessP
  refine wcond_ndec (fun h1 => ?_) (fun h1 => ?_)
  · simp (disch := omega) only [go_sem, ↓reduceIte, Nat.reduceEqDiff, Nat.reduceAdd, Nat.reduceMul, Nat.reduceSub, Nat.reduceLT, Nat.reduceLeDiff, Nat.reduceBEq, reduceCtorEq, Int.reduceLT, Int.reduceEq, Int.reduceLE, Int.reduceAdd, Int.reduceSub, Int.reduceToNat, Int.reduceNeg]
    exact ⟨by first | exact vb_dec (by omega) | exact vb_true (by omega) | exact vb_false (by omega) | exact vb_not (by omega) | (simp; done) | (simp; omega), he⟩
  · simp (disch := omega) only [go_sem, ↓reduceIte, Nat.reduceEqDiff, Nat.reduceAdd, Nat.reduceMul, Nat.reduceSub, Nat.reduceLT, Nat.reduceLeDiff, Nat.reduceBEq, reduceCtorEq, Int.reduceLT, Int.reduceEq, Int.reduceLE, Int.reduceAdd, Int.reduceSub, Int.reduceToNat, Int.reduceNeg]
    exact ⟨by first | exact vb_dec (by omega) | exact vb_true (by omega) | exact vb_false (by omega) | exact vb_not (by omega) | (simp; done) | (simp; omega), he⟩
theorem F.osierref03_In.J {S : St} {l : Value} {xs : List Dot} {d : Dot} (hl : SlT dotE S l xs) (hL : xs.length < 4611686018427387904) : J PR F.osierref03_In [l, dotV d] S fun v S' => v = .bool (decide (d ∈ xs)) ∧ S.Ext S' := by
  obtain ⟨base, cap, rfl⟩ := hl.len dotE
  refine J_by PR.mixed F.osierref03_In.ok (by simp) ?_
  simp (disch := omega) only [go_sem, ↓reduceIte, Nat.reduceEqDiff, Nat.reduceAdd, Nat.reduceMul, Nat.reduceSub, Nat.reduceLT, Nat.reduceLeDiff, Nat.reduceBEq, reduceCtorEq, Int.reduceLT, Int.reduceEq, Int.reduceLE, Int.reduceAdd, Int.reduceSub, Int.reduceToNat, Int.reduceNeg]
  refine wfresh_of fun x hx => ?_
  simp (disch := omega) only [go_sem, ↓reduceIte, Nat.reduceEqDiff, Nat.reduceAdd, Nat.reduceMul, Nat.reduceSub, Nat.reduceLT, Nat.reduceLeDiff, Nat.reduceBEq, reduceCtorEq, Int.reduceLT, Int.reduceEq, Int.reduceLE, Int.reduceAdd, Int.reduceSub, Int.reduceToNat, Int.reduceNeg]
  have he := (St.Ext.refl S).put hx (.cells true 2 [.int .i64 d.1, .int .i64 d.2])
  refine wC_loop (fun n fr S' => ∃ i, n = xs.length - i ∧ i ≤ xs.length ∧ S' = S.put x (.cells true 2 [.int .i64 d.1, .int .i64 d.2]) ∧ fr 0 = .slice base xs.length cap ∧ fr 3 = .pointer (some ⟨x, 0, none⟩) ∧ fr 5 = .int .i64 (i : Nat) ∧ d ∉ xs.take i) xs.length ⟨0, by simp (disch := omega) only [go_sem, ↓reduceIte, Nat.reduceEqDiff, Nat.reduceAdd, Nat.reduceMul, Nat.reduceSub, Nat.reduceLT, Nat.reduceLeDiff, Nat.reduceBEq, reduceCtorEq, Int.reduceLT, Int.reduceEq, Int.reduceLE, Int.reduceAdd, Int.reduceSub, Int.reduceToNat, Int.reduceNeg]; simp⟩ ?_
  rintro n fr S' ⟨i, rfl, hi, rfl, h0, h3, h5, hn⟩
  simp (disch := omega) only [go_sem, ↓reduceIte, Nat.reduceEqDiff, Nat.reduceAdd, Nat.reduceMul, Nat.reduceSub, Nat.reduceLT, Nat.reduceLeDiff, Nat.reduceBEq, reduceCtorEq, Int.reduceLT, Int.reduceEq, Int.reduceLE, Int.reduceAdd, Int.reduceSub, Int.reduceToNat, Int.reduceNeg, F.osierref03_In.l0, h0, h3, h5]
  refine wcond_dec (fun hlt => ?_) (fun hge => ?_)
  · have hxi : xs[i]? = some xs[i] := by simp
    obtain ⟨b, off, rfl, hb, hld, -⟩ := hl.at dotE hxi
    have hld' : S.loadN ⟨b, off + i * 2, none⟩ 2 = some [.int .i64 xs[i].1, .int .i64 xs[i].2] := hld
    have hc : (0 : Int) ≤ (i : Int) ∧ (i : Int) < (xs.length : Int) := by omega
    simp (disch := omega) only [go_sem, ↓reduceIte, Nat.reduceEqDiff, Nat.reduceAdd, Nat.reduceMul, Nat.reduceSub, Nat.reduceLT, Nat.reduceLeDiff, Nat.reduceBEq, reduceCtorEq, Int.reduceLT, Int.reduceEq, Int.reduceLE, Int.reduceAdd, Int.reduceSub, Int.reduceToNat, Int.reduceNeg, h0, h3, h5, hc, hld', eqV_dot]
    refine wcond_dec (fun hq => ?_) (fun hq => ?_)
    · simp (disch := omega) only [go_sem, ↓reduceIte, Nat.reduceEqDiff, Nat.reduceAdd, Nat.reduceMul, Nat.reduceSub, Nat.reduceLT, Nat.reduceLeDiff, Nat.reduceBEq, reduceCtorEq, Int.reduceLT, Int.reduceEq, Int.reduceLE, Int.reduceAdd, Int.reduceSub, Int.reduceToNat, Int.reduceNeg]
      exact ⟨vb_true (hq ▸ List.getElem_mem _), he⟩
    · simp (disch := omega) only [go_sem, ↓reduceIte, Nat.reduceEqDiff, Nat.reduceAdd, Nat.reduceMul, Nat.reduceSub, Nat.reduceLT, Nat.reduceLeDiff, Nat.reduceBEq, reduceCtorEq, Int.reduceLT, Int.reduceEq, Int.reduceLE, Int.reduceAdd, Int.reduceSub, Int.reduceToNat, Int.reduceNeg, h0, h3, h5]
      refine ⟨xs.length - (i + 1), by omega, i + 1, rfl, by omega, rfl, ?_⟩
      rw [take_snoc hxi, List.mem_append]
      rintro (h | h)
      · exact hn h
      · simp at h
        exact hq h.symm
  · simp (disch := omega) only [go_sem, ↓reduceIte, Nat.reduceEqDiff, Nat.reduceAdd, Nat.reduceMul, Nat.reduceSub, Nat.reduceLT, Nat.reduceLeDiff, Nat.reduceBEq, reduceCtorEq, Int.reduceLT, Int.reduceEq, Int.reduceLE, Int.reduceAdd, Int.reduceSub, Int.reduceToNat, Int.reduceNeg]
    rw [List.take_of_length_le (by omega)] at hn
    exact ⟨vb_false hn, he⟩

abbrev boolV (b : Bool) : Value := .bool b
theorem F.dots_set.J {S : St} {l : Value} {xs : List Dot} (hl : SlT dotE S l xs) (hL : xs.length < 4611686018427387904) :
    J PR F.dots_set [l] S fun v S' => ∃ b, v = .map (some b) ∧ S.n ≤ b ∧ MapT dotKE boolV true S' b (setOf xs) ∧ S.Ext S' := by
  obtain ⟨base, cap, rfl⟩ := hl.len dotE
  refine J_by PR.mixed F.dots_set.ok (by simp) ?_
  simp (disch := omega) only [go_sem, ↓reduceIte, Nat.reduceEqDiff, Nat.reduceAdd, Nat.reduceMul, Nat.reduceSub, Nat.reduceLT, Nat.reduceLeDiff, Nat.reduceBEq, reduceCtorEq, Int.reduceLT, Int.reduceEq, Int.reduceLE, Int.reduceAdd, Int.reduceSub, Int.reduceToNat, Int.reduceNeg]
  refine wfresh_of fun b hb => ?_
  simp (disch := omega) only [go_sem, ↓reduceIte, Nat.reduceEqDiff, Nat.reduceAdd, Nat.reduceMul, Nat.reduceSub, Nat.reduceLT, Nat.reduceLeDiff, Nat.reduceBEq, reduceCtorEq, Int.reduceLT, Int.reduceEq, Int.reduceLE, Int.reduceAdd, Int.reduceSub, Int.reduceToNat, Int.reduceNeg]
  have he := (St.Ext.refl S).put hb (.map true [] 0)
  refine wC_loop (fun n fr S' => ∃ i, n = xs.length - i ∧ i ≤ xs.length ∧ fr 7 = .slice base xs.length cap ∧ fr 8 = .int .i64 xs.length ∧ fr 3 = .map (some b) ∧ fr 9 = .int .i64 (i : Nat) ∧ S.Ext S' ∧ MapT dotKE boolV true S' b (setOf (xs.take i))) xs.length ⟨0, by simp (disch := omega) only [go_sem, ↓reduceIte, Nat.reduceEqDiff, Nat.reduceAdd, Nat.reduceMul, Nat.reduceSub, Nat.reduceLT, Nat.reduceLeDiff, Nat.reduceBEq, reduceCtorEq, Int.reduceLT, Int.reduceEq, Int.reduceLE, Int.reduceAdd, Int.reduceSub, Int.reduceToNat, Int.reduceNeg]; exact ⟨by simp, by simp, he, MapT.new _ _⟩⟩ ?_
  rintro n fr S1 ⟨i, rfl, hi, h7, h8, h3, h9, he1, hm⟩
  simp (disch := omega) only [go_sem, ↓reduceIte, Nat.reduceEqDiff, Nat.reduceAdd, Nat.reduceMul, Nat.reduceSub, Nat.reduceLT, Nat.reduceLeDiff, Nat.reduceBEq, reduceCtorEq, Int.reduceLT, Int.reduceEq, Int.reduceLE, Int.reduceAdd, Int.reduceSub, Int.reduceToNat, Int.reduceNeg, F.dots_set.l0, h7, h8, h9]
  refine wcond_dec (fun hlt => ?_) (fun hge => ?_)
  · have hxi : xs[i]? = some xs[i] := by simp
    obtain ⟨c, off, rfl, hc, hld, -⟩ := (hl.ext dotE he1).at dotE hxi
    have hld' : S1.loadN ⟨c, off + i * 2, none⟩ 2 = some [.int .i64 xs[i].1, .int .i64 xs[i].2] := hld
    have hcc : (0 : Int) ≤ (i : Int) ∧ (i : Int) < (xs.length : Int) := by omega
    simp (disch := omega) only [go_sem, ↓reduceIte, Nat.reduceEqDiff, Nat.reduceAdd, Nat.reduceMul, Nat.reduceSub, Nat.reduceLT, Nat.reduceLeDiff, Nat.reduceBEq, reduceCtorEq, Int.reduceLT, Int.reduceEq, Int.reduceLE, Int.reduceAdd, Int.reduceSub, Int.reduceToNat, Int.reduceNeg, h7, h8, h9, hcc, hld']
    refine wfresh_of fun x hx => ?_
    simp (disch := omega) only [go_sem, ↓reduceIte, Nat.reduceEqDiff, Nat.reduceAdd, Nat.reduceMul, Nat.reduceSub, Nat.reduceLT, Nat.reduceLeDiff, Nat.reduceBEq, reduceCtorEq, Int.reduceLT, Int.reduceEq, Int.reduceLE, Int.reduceAdd, Int.reduceSub, Int.reduceToNat, Int.reduceNeg, h3]
    have he2 := (St.Ext.refl S1).put hx (.cells true 2 [.int .i64 xs[i].1, .int .i64 xs[i].2])
    refine wE_mset dotKE boolV (k := xs[i]) (v := true) (hm.ext _ _ he2) rfl rfl rfl fun S2 hm2 hbut => ?_
    simp (disch := omega) only [go_sem, ↓reduceIte, Nat.reduceEqDiff, Nat.reduceAdd, Nat.reduceMul, Nat.reduceSub, Nat.reduceLT, Nat.reduceLeDiff, Nat.reduceBEq, reduceCtorEq, Int.reduceLT, Int.reduceEq, Int.reduceLE, Int.reduceAdd, Int.reduceSub, Int.reduceToNat, Int.reduceNeg, h3, h7, h8, h9]
    refine ⟨xs.length - (i + 1), by omega, i + 1, rfl, by omega, rfl, (he1.trans he2).but hbut (by simpa [blkOf] using hb), ?_⟩
    rw [take_snoc hxi, setOf, List.foldl_append]
    exact hm2
  · simp (disch := omega) only [go_sem, ↓reduceIte, Nat.reduceEqDiff, Nat.reduceAdd, Nat.reduceMul, Nat.reduceSub, Nat.reduceLT, Nat.reduceLeDiff, Nat.reduceBEq, reduceCtorEq, Int.reduceLT, Int.reduceEq, Int.reduceLE, Int.reduceAdd, Int.reduceSub, Int.reduceToNat, Int.reduceNeg, h3]
    rw [List.take_of_length_le (by omega)] at hm
    exact ⟨b, rfl, hb, hm, he1⟩

theorem F.dots_row.J {S : St} {rw : Bool} {b : Nat} {m : List (Dot × Bool)} (hm : MapT dotKE boolV rw S b m) (hL : m.length < 100000) :
    J PR F.dots_row [.map (some b)] S fun v S' => ∃ ys, OwnT dotE S.n S' v ys ∧ S.Ext S' ∧ ys.Perm (m.map Prod.fst) ∧ ys.Pairwise (fun x y => ¬ lessP y x) := by
  refine J_by PR.mixed F.dots_row.ok (by simp) ?_
  simp (disch := omega) only [go_sem, ↓reduceIte, Nat.reduceEqDiff, Nat.reduceAdd, Nat.reduceMul, Nat.reduceSub, Nat.reduceLT, Nat.reduceLeDiff, Nat.reduceBEq, reduceCtorEq, Int.reduceLT, Int.reduceEq, Int.reduceLE, Int.reduceAdd, Int.reduceSub, Int.reduceToNat, Int.reduceNeg]
  refine wfresh_of fun c hc => ?_
  simp (disch := omega) only [go_sem, ↓reduceIte, Nat.reduceEqDiff, Nat.reduceAdd, Nat.reduceMul, Nat.reduceSub, Nat.reduceLT, Nat.reduceLeDiff, Nat.reduceBEq, reduceCtorEq, Int.reduceLT, Int.reduceEq, Int.reduceLE, Int.reduceAdd, Int.reduceSub, Int.reduceToNat, Int.reduceNeg]
  have he := (St.Ext.refl S).put hc (.cells true 0 [])
  refine wE_rng dotKE boolV (hm.ext _ _ he) rfl fun r S1 hr hit he1 => ?_
  simp (disch := omega) only [go_sem, ↓reduceIte, Nat.reduceEqDiff, Nat.reduceAdd, Nat.reduceMul, Nat.reduceSub, Nat.reduceLT, Nat.reduceLeDiff, Nat.reduceBEq, reduceCtorEq, Int.reduceLT, Int.reduceEq, Int.reduceLE, Int.reduceAdd, Int.reduceSub, Int.reduceToNat, Int.reduceNeg]
  have hown : OwnT dotE S.n S1 (.slice (some ⟨c, 0, none⟩) 0 0) [] := OwnT.ext dotE (OwnT.mk dotE hc (St.lt_put_self _ _ _) (Nat.le_refl 0) (St.put_same _ _ _)) he1
  have hrc : c < r := by rw [St.put_n] at hr; omega
  refine wC_loop (fun n fr S' => ∃ vis v, n = m.length - vis.length ∧ fr 7 = .pointer (some ⟨r, 0, none⟩) ∧ fr 3 = v ∧ IterT dotKE boolV rw S' r b m vis ∧ OwnT dotE S.n S' v (vis.map Prod.fst) ∧ S.Ext S' ∧ ∃ q, blkOf v = some q ∧ q ≠ r) m.length ⟨[], .slice (some ⟨c, 0, none⟩) 0 0, by simp (disch := omega) only [go_sem, ↓reduceIte, Nat.reduceEqDiff, Nat.reduceAdd, Nat.reduceMul, Nat.reduceSub, Nat.reduceLT, Nat.reduceLeDiff, Nat.reduceBEq, reduceCtorEq, Int.reduceLT, Int.reduceEq, Int.reduceLE, Int.reduceAdd, Int.reduceSub, Int.reduceToNat, Int.reduceNeg]; exact ⟨by simp, hit, hown, he.trans he1, c, rfl, by omega⟩⟩ ?_
  rintro n fr S2 ⟨vis, v, rfl, h7, h3, hit2, hown2, he2, q, hq, hqr⟩
  simp (disch := omega) only [go_sem, ↓reduceIte, Nat.reduceEqDiff, Nat.reduceAdd, Nat.reduceMul, Nat.reduceSub, Nat.reduceLT, Nat.reduceLeDiff, Nat.reduceBEq, reduceCtorEq, Int.reduceLT, Int.reduceEq, Int.reduceLE, Int.reduceAdd, Int.reduceSub, Int.reduceToNat, Int.reduceNeg, F.dots_row.l0, h7]
  refine wE_nxt dotKE boolV hit2 h7 (fun hperm => ?_) (fun p S3 hp hpv hit3 hbut => ?_)
  · simp (disch := omega) only [go_sem, ↓reduceIte, Nat.reduceEqDiff, Nat.reduceAdd, Nat.reduceMul, Nat.reduceSub, Nat.reduceLT, Nat.reduceLeDiff, Nat.reduceBEq, reduceCtorEq, Int.reduceLT, Int.reduceEq, Int.reduceLE, Int.reduceAdd, Int.reduceSub, Int.reduceToNat, Int.reduceNeg, h3]
    rcases hown2 with ⟨_, rfl⟩ | ⟨c2, k2, rfl, hB, hb2, hk2, ho2⟩
    · simp [blkOf] at hq
    · refine wJ_of (sortDot_J (fun S x y => F.dots_compare.J) ho2 (by have := hit2.len; simp; omega)) ?_
      rintro _ S3 ⟨rfl, ys, hp, hs, rfl⟩
      simp (disch := omega) only [go_sem, ↓reduceIte, Nat.reduceEqDiff, Nat.reduceAdd, Nat.reduceMul, Nat.reduceSub, Nat.reduceLT, Nat.reduceLeDiff, Nat.reduceBEq, reduceCtorEq, Int.reduceLT, Int.reduceEq, Int.reduceLE, Int.reduceAdd, Int.reduceSub, Int.reduceToNat, Int.reduceNeg, h3]
      have hl : (vis.map Prod.fst).length = ys.length := hp.length_eq.symm
      rw [hl]
      refine ⟨ys, OwnT.mk dotE hB (St.lt_put_self _ _ _) (by omega) (St.put_same _ _ _), ⟨Nat.le_trans he2.n (by rw [St.put_n]; omega), fun i hi => ?_⟩, hp.trans (hperm.map _), hs⟩
      rw [St.put_other _ _ _ (by omega)]
      exact he2.obj i hi
  · simp (disch := omega) only [go_sem, ↓reduceIte, Nat.reduceEqDiff, Nat.reduceAdd, Nat.reduceMul, Nat.reduceSub, Nat.reduceLT, Nat.reduceLeDiff, Nat.reduceBEq, reduceCtorEq, Int.reduceLT, Int.reduceEq, Int.reduceLE, Int.reduceAdd, Int.reduceSub, Int.reduceToNat, Int.reduceNeg, h7]
    refine wE_ent dotKE boolV hit3 h7 ?_
    simp (disch := omega) only [go_sem, ↓reduceIte, Nat.reduceEqDiff, Nat.reduceAdd, Nat.reduceMul, Nat.reduceSub, Nat.reduceLT, Nat.reduceLeDiff, Nat.reduceBEq, reduceCtorEq, Int.reduceLT, Int.reduceEq, Int.reduceLE, Int.reduceAdd, Int.reduceSub, Int.reduceToNat, Int.reduceNeg]
    refine wfresh_of fun x hx => ?_
    simp (disch := omega) only [go_sem, ↓reduceIte, Nat.reduceEqDiff, Nat.reduceAdd, Nat.reduceMul, Nat.reduceSub, Nat.reduceLT, Nat.reduceLeDiff, Nat.reduceBEq, reduceCtorEq, Int.reduceLT, Int.reduceEq, Int.reduceLE, Int.reduceAdd, Int.reduceSub, Int.reduceToNat, Int.reduceNeg, h3]
    refine wfresh_of fun y hy => ?_
    simp (disch := omega) only [go_sem, ↓reduceIte, Nat.reduceEqDiff, Nat.reduceAdd, Nat.reduceMul, Nat.reduceSub, Nat.reduceLT, Nat.reduceLeDiff, Nat.reduceBEq, reduceCtorEq, Int.reduceLT, Int.reduceEq, Int.reduceLE, Int.reduceAdd, Int.reduceSub, Int.reduceToNat, Int.reduceNeg]
    have e1 := (St.Ext.refl S3).put hx (.cells true 2 [.int .i64 p.1.1, .int .i64 p.1.2])
    have e2 := e1.put (b := y) (by rw [St.put_n]; exact hy) (.cells true 2 [.int .i64 p.1.1, .int .i64 p.1.2])
    have hown3 : OwnT dotE S.n S3 v (vis.map Prod.fst) := hown2.but dotE hbut (by intro i hi; rw [hq] at hi; simp at hi; subst hi; simp [blkOf]; exact fun e => hqr e.symm)
    have hlen := hit3.len
    simp at hlen
    refine wE_app dotE (ys := [p.1]) (hown3.ext dotE e2) (SlT.lit dotE (xs := [p.1])) rfl rfl ?_ (by simp; omega) (by simp; omega) fun v2 S4 ho4 hb4 hv4 => ?_
    · have g1 := he2.n
      have g2 := hbut.n
      have g3 := e2.n
      omega
    · simp (disch := omega) only [go_sem, ↓reduceIte, Nat.reduceEqDiff, Nat.reduceAdd, Nat.reduceMul, Nat.reduceSub, Nat.reduceLT, Nat.reduceLeDiff, Nat.reduceBEq, reduceCtorEq, Int.reduceLT, Int.reduceEq, Int.reduceLE, Int.reduceAdd, Int.reduceSub, Int.reduceToNat, Int.reduceNeg, h7]
      have hqb := hown2.blk dotE q hq
      have hr3 := hit3.1
      have hb3 := hm.1
      have g1 := he2.n
      have g2 := hbut.n
      have g3 := e2.n
      have hre : S.n ≤ r := by have := he.n; omega
      have e3 : S.Ext S4 := ((he2.but hbut (by simp only [blkOf]; rintro i ⟨⟩; omega)).trans e2).but hb4 (by rw [hq]; rintro i ⟨⟩; omega)
      refine ⟨m.length - (vis.length + 1), by omega, vis ++ [p], v2, by simp, rfl, hit3.congr _ _ (Nat.le_trans e2.n hb4.n) ?_ ?_, by simpa using ho4, e3, ?_⟩
      · rw [hb4.obj b (by omega) (by rw [hq]; simp; omega), e2.obj b (by omega)]
      · rw [hb4.obj r (by omega) (by rw [hq]; simp; omega), e2.obj r (by omega)]
      · rcases hv4 with h | ⟨j, h, hj⟩
        · exact ⟨q, by rw [h, hq], hqr⟩
        · exact ⟨j, h, by omega⟩

theorem F.dots_Rising.J {S : St} {l : Value} {xs : List Dot} (hl : SlT dotE S l xs) (hL : xs.length < 100000) :
    J PR F.dots_Rising [l] S fun v S' => OwnT dotE S.n S' v (risen xs) ∧ S.Ext S' := by
  refine J_by PR.mixed F.dots_Rising.ok (by simp) ?_
  simp (disch := omega) only [go_sem, ↓reduceIte, Nat.reduceEqDiff, Nat.reduceAdd, Nat.reduceMul, Nat.reduceSub, Nat.reduceLT, Nat.reduceLeDiff, Nat.reduceBEq, reduceCtorEq, Int.reduceLT, Int.reduceEq, Int.reduceLE, Int.reduceAdd, Int.reduceSub, Int.reduceToNat, Int.reduceNeg]
  refine wJ_of (F.dots_set.J hl (by omega)) ?_
  rintro _ S1 ⟨b, rfl, hb, hm, he⟩
  simp (disch := omega) only [go_sem, ↓reduceIte, Nat.reduceEqDiff, Nat.reduceAdd, Nat.reduceMul, Nat.reduceSub, Nat.reduceLT, Nat.reduceLeDiff, Nat.reduceBEq, reduceCtorEq, Int.reduceLT, Int.reduceEq, Int.reduceLE, Int.reduceAdd, Int.reduceSub, Int.reduceToNat, Int.reduceNeg]
  refine wJ_of (F.dots_row.J hm (by have := setOf_len xs; omega)) ?_
  rintro v S2 ⟨ys, ho, he2, hp, hs⟩
  simp (disch := omega) only [go_sem, ↓reduceIte, Nat.reduceEqDiff, Nat.reduceAdd, Nat.reduceMul, Nat.reduceSub, Nat.reduceLT, Nat.reduceLeDiff, Nat.reduceBEq, reduceCtorEq, Int.reduceLT, Int.reduceEq, Int.reduceLE, Int.reduceAdd, Int.reduceSub, Int.reduceToNat, Int.reduceNeg]
  rw [row_risen hp hs] at ho
  exact ⟨ho.mono dotE he.n, he.trans he2⟩

def placesN (xs : List Dot) : Nat → List (Dot × Nat)
  | 0 => []
  | i + 1 => match xs[i]? with
    | some d => if (alook d (placesN xs i)).isSome then placesN xs i else aset d i (placesN xs i)
    | none => placesN xs i
abbrev natV (n : Nat) : Value := .int .i64 n
end Go.Osj

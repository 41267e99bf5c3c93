/- The law DotsOrder. -/
import Derived.Test.YtnofakkcipcphaaD
set_option linter.unusedSimpArgs false
namespace Go.Osj
theorem F.osierlaw03_DotsOrder.J {S : St} {a b c : Dot} : J PR F.osierlaw03_DotsOrder [dotV a, dotV b, dotV c] S fun v S' => v = .bool true := by
  refine J_by PR.mixed F.osierlaw03_DotsOrder.ok (by simp) ?_
  simp (disch := omega) only [go_sem, ↓reduceIte, Nat.reduceEqDiff, Nat.reduceAdd, Nat.reduceMul, Nat.reduceSub, Nat.reduceLT, Nat.reduceLeDiff, Nat.reduceBEq, Nat.reduceLeDiff, reduceCtorEq, Int.reduceLT, Int.reduceLE, Int.reduceAdd, Int.reduceSub, Int.reduceToNat, Int.reduceNeg, Int.toNat_natCast, beq_self_eq_true, wrap64, Nat.zero_add, Nat.add_zero, St.loadN_other, St.cell_other]
  refine wfresh_of fun x hx => ?_
  simp (disch := omega) only [go_sem, ↓reduceIte, Nat.reduceEqDiff, Nat.reduceAdd, Nat.reduceMul, Nat.reduceSub, Nat.reduceLT, Nat.reduceLeDiff, Nat.reduceBEq, Nat.reduceLeDiff, reduceCtorEq, Int.reduceLT, Int.reduceLE, Int.reduceAdd, Int.reduceSub, Int.reduceToNat, Int.reduceNeg, Int.toNat_natCast, beq_self_eq_true, wrap64, Nat.zero_add, Nat.add_zero, St.loadN_other, St.cell_other]
  refine wfresh_of fun y hy => ?_
  simp (disch := omega) only [go_sem, ↓reduceIte, Nat.reduceEqDiff, Nat.reduceAdd, Nat.reduceMul, Nat.reduceSub, Nat.reduceLT, Nat.reduceLeDiff, Nat.reduceBEq, Nat.reduceLeDiff, reduceCtorEq, Int.reduceLT, Int.reduceLE, Int.reduceAdd, Int.reduceSub, Int.reduceToNat, Int.reduceNeg, Int.toNat_natCast, beq_self_eq_true, wrap64, Nat.zero_add, Nat.add_zero, St.loadN_other, St.cell_other]
  refine wfresh_of fun z hz => ?_
  simp (disch := omega) only [go_sem, ↓reduceIte, Nat.reduceEqDiff, Nat.reduceAdd, Nat.reduceMul, Nat.reduceSub, Nat.reduceLT, Nat.reduceLeDiff, Nat.reduceBEq, Nat.reduceLeDiff, reduceCtorEq, Int.reduceLT, Int.reduceLE, Int.reduceAdd, Int.reduceSub, Int.reduceToNat, Int.reduceNeg, Int.toNat_natCast, beq_self_eq_true, wrap64, Nat.zero_add, Nat.add_zero, St.loadN_other, St.cell_other]
  refine wJ_of F.osierlaw03_awake.J ?_
  rintro _ S1 ⟨rfl, he1⟩
  have g1 := he1.n
  simp only [St.put_n] at g1
  have lx : S1.loadN ⟨x, 0, none⟩ 2 = some [.int .i64 a.1, .int .i64 a.2] := by rw [he1.loadN (by simp only [St.put_n]; omega)]; simp (disch := omega) only [go_sem, ↓reduceIte, Nat.reduceEqDiff, Nat.reduceAdd, Nat.reduceMul, Nat.reduceSub, Nat.reduceLT, Nat.reduceLeDiff, Nat.reduceBEq, Nat.reduceLeDiff, reduceCtorEq, Int.reduceLT, Int.reduceLE, Int.reduceAdd, Int.reduceSub, Int.reduceToNat, Int.reduceNeg, Int.toNat_natCast, beq_self_eq_true, wrap64, Nat.zero_add, Nat.add_zero, St.loadN_other, St.cell_other]
  have ly : S1.loadN ⟨y, 0, none⟩ 2 = some [.int .i64 b.1, .int .i64 b.2] := by rw [he1.loadN (by simp only [St.put_n]; omega)]; simp (disch := omega) only [go_sem, ↓reduceIte, Nat.reduceEqDiff, Nat.reduceAdd, Nat.reduceMul, Nat.reduceSub, Nat.reduceLT, Nat.reduceLeDiff, Nat.reduceBEq, Nat.reduceLeDiff, reduceCtorEq, Int.reduceLT, Int.reduceLE, Int.reduceAdd, Int.reduceSub, Int.reduceToNat, Int.reduceNeg, Int.toNat_natCast, beq_self_eq_true, wrap64, Nat.zero_add, Nat.add_zero, St.loadN_other, St.cell_other]
  have lz : S1.loadN ⟨z, 0, none⟩ 2 = some [.int .i64 c.1, .int .i64 c.2] := by rw [he1.loadN (by simp only [St.put_n]; omega)]; simp (disch := omega) only [go_sem, ↓reduceIte, Nat.reduceEqDiff, Nat.reduceAdd, Nat.reduceMul, Nat.reduceSub, Nat.reduceLT, Nat.reduceLeDiff, Nat.reduceBEq, Nat.reduceLeDiff, reduceCtorEq, Int.reduceLT, Int.reduceLE, Int.reduceAdd, Int.reduceSub, Int.reduceToNat, Int.reduceNeg, Int.toNat_natCast, beq_self_eq_true, wrap64, Nat.zero_add, Nat.add_zero, St.loadN_other, St.cell_other]
  simp (disch := omega) only [go_sem, ↓reduceIte, Nat.reduceEqDiff, Nat.reduceAdd, Nat.reduceMul, Nat.reduceSub, Nat.reduceLT, Nat.reduceLeDiff, Nat.reduceBEq, Nat.reduceLeDiff, reduceCtorEq, Int.reduceLT, Int.reduceLE, Int.reduceAdd, Int.reduceSub, Int.reduceToNat, Int.reduceNeg, Int.toNat_natCast, beq_self_eq_true, wrap64, Nat.zero_add, Nat.add_zero, St.loadN_other, St.cell_other, lx, ly]
  refine wJ_of F.dots_Less.J ?_
  rintro _ S2 ⟨rfl, he2⟩
  have ly2 : S2.loadN ⟨y, 0, none⟩ 2 = _ := (he2.loadN (by omega) 0 2).trans ly
  have lz2 : S2.loadN ⟨z, 0, none⟩ 2 = _ := (he2.loadN (by omega) 0 2).trans lz
  simp (disch := omega) only [go_sem, ↓reduceIte, Nat.reduceEqDiff, Nat.reduceAdd, Nat.reduceMul, Nat.reduceSub, Nat.reduceLT, Nat.reduceLeDiff, Nat.reduceBEq, Nat.reduceLeDiff, reduceCtorEq, Int.reduceLT, Int.reduceLE, Int.reduceAdd, Int.reduceSub, Int.reduceToNat, Int.reduceNeg, Int.toNat_natCast, beq_self_eq_true, wrap64, Nat.zero_add, Nat.add_zero, St.loadN_other, St.cell_other, ly2, lz2]
  refine wJ_of F.dots_Less.J ?_
  rintro _ S3 ⟨rfl, he3⟩
  have he13 := he2.trans he3
  have lx3 : S3.loadN ⟨x, 0, none⟩ 2 = _ := (he13.loadN (by omega) 0 2).trans lx
  have lz3 : S3.loadN ⟨z, 0, none⟩ 2 = _ := (he13.loadN (by omega) 0 2).trans lz
  simp (disch := omega) only [go_sem, ↓reduceIte, Nat.reduceEqDiff, Nat.reduceAdd, Nat.reduceMul, Nat.reduceSub, Nat.reduceLT, Nat.reduceLeDiff, Nat.reduceBEq, Nat.reduceLeDiff, reduceCtorEq, Int.reduceLT, Int.reduceLE, Int.reduceAdd, Int.reduceSub, Int.reduceToNat, Int.reduceNeg, Int.toNat_natCast, beq_self_eq_true, wrap64, Nat.zero_add, Nat.add_zero, St.loadN_other, St.cell_other, lx3, lz3]
  refine wJ_of F.dots_Less.J ?_
  rintro _ S4 ⟨rfl, he4⟩
  have he14 := he13.trans he4
  have lx4 : S4.loadN ⟨x, 0, none⟩ 2 = _ := (he14.loadN (by omega) 0 2).trans lx
  simp (disch := omega) only [go_sem, ↓reduceIte, Nat.reduceEqDiff, Nat.reduceAdd, Nat.reduceMul, Nat.reduceSub, Nat.reduceLT, Nat.reduceLeDiff, Nat.reduceBEq, Nat.reduceLeDiff, reduceCtorEq, Int.reduceLT, Int.reduceLE, Int.reduceAdd, Int.reduceSub, Int.reduceToNat, Int.reduceNeg, Int.toNat_natCast, beq_self_eq_true, wrap64, Nat.zero_add, Nat.add_zero, St.loadN_other, St.cell_other, lx4]
  refine wJ_of F.dots_May.J ?_
  rintro _ S5 ⟨rfl, he5⟩
  have he15 := he14.trans he5
  have lx5 : S5.loadN ⟨x, 0, none⟩ 2 = _ := (he15.loadN (by omega) 0 2).trans lx
  simp (disch := omega) only [go_sem, ↓reduceIte, Nat.reduceEqDiff, Nat.reduceAdd, Nat.reduceMul, Nat.reduceSub, Nat.reduceLT, Nat.reduceLeDiff, Nat.reduceBEq, Nat.reduceLeDiff, reduceCtorEq, Int.reduceLT, Int.reduceLE, Int.reduceAdd, Int.reduceSub, Int.reduceToNat, Int.reduceNeg, Int.toNat_natCast, beq_self_eq_true, wrap64, Nat.zero_add, Nat.add_zero, St.loadN_other, St.cell_other, lx5]
  refine wJ_of F.osierref03_May.J ?_
  rintro _ S6 ⟨rfl, he6⟩
  have he16 := he15.trans he6
  have lx6 : S6.loadN ⟨x, 0, none⟩ 2 = _ := (he16.loadN (by omega) 0 2).trans lx
  have ly6 : S6.loadN ⟨y, 0, none⟩ 2 = _ := (he16.loadN (by omega) 0 2).trans ly
  simp (disch := omega) only [go_sem, ↓reduceIte, Nat.reduceEqDiff, Nat.reduceAdd, Nat.reduceMul, Nat.reduceSub, Nat.reduceLT, Nat.reduceLeDiff, Nat.reduceBEq, Nat.reduceLeDiff, reduceCtorEq, Int.reduceLT, Int.reduceLE, Int.reduceAdd, Int.reduceSub, Int.reduceToNat, Int.reduceNeg, Int.toNat_natCast, beq_self_eq_true, wrap64, Nat.zero_add, Nat.add_zero, St.loadN_other, St.cell_other, lx6, ly6]
  refine wJ_of F.osierref03_Less.J ?_
  rintro _ S7 ⟨rfl, he7⟩
  have he17 := he16.trans he7
  have lx7 : S7.loadN ⟨x, 0, none⟩ 2 = _ := (he17.loadN (by omega) 0 2).trans lx
  have ly7 : S7.loadN ⟨y, 0, none⟩ 2 = _ := (he17.loadN (by omega) 0 2).trans ly
  by_cases hab : lessP a b
  · have hba := lessP_asymm hab
    have hne : a ≠ b := by intro e; subst e; exact lessP_irrefl _ hab
    simp (disch := omega) only [go_sem, ↓reduceIte, Nat.reduceEqDiff, Nat.reduceAdd, Nat.reduceMul, Nat.reduceSub, Nat.reduceLT, Nat.reduceLeDiff, Nat.reduceBEq, Nat.reduceLeDiff, reduceCtorEq, Int.reduceLT, Int.reduceLE, Int.reduceAdd, Int.reduceSub, Int.reduceToNat, Int.reduceNeg, Int.toNat_natCast, beq_self_eq_true, wrap64, Nat.zero_add, Nat.add_zero, St.loadN_other, St.cell_other, lx7, ly7, eqV_dot, hab, hne]
    refine wJ_of F.dots_Less.J ?_
    rintro _ S8 ⟨rfl, he8⟩
    simp (disch := omega) only [go_sem, ↓reduceIte, Nat.reduceEqDiff, Nat.reduceAdd, Nat.reduceMul, Nat.reduceSub, Nat.reduceLT, Nat.reduceLeDiff, Nat.reduceBEq, Nat.reduceLeDiff, reduceCtorEq, Int.reduceLT, Int.reduceLE, Int.reduceAdd, Int.reduceSub, Int.reduceToNat, Int.reduceNeg, Int.toNat_natCast, beq_self_eq_true, wrap64, Nat.zero_add, Nat.add_zero, St.loadN_other, St.cell_other, hba]
    by_cases hbc : lessP b c
    · have hac := lessP_trans hab hbc
      simp (disch := omega) only [go_sem, ↓reduceIte, Nat.reduceEqDiff, Nat.reduceAdd, Nat.reduceMul, Nat.reduceSub, Nat.reduceLT, Nat.reduceLeDiff, Nat.reduceBEq, Nat.reduceLeDiff, reduceCtorEq, Int.reduceLT, Int.reduceLE, Int.reduceAdd, Int.reduceSub, Int.reduceToNat, Int.reduceNeg, Int.toNat_natCast, beq_self_eq_true, wrap64, Nat.zero_add, Nat.add_zero, St.loadN_other, St.cell_other, hbc, hac]
    · simp (disch := omega) only [go_sem, ↓reduceIte, Nat.reduceEqDiff, Nat.reduceAdd, Nat.reduceMul, Nat.reduceSub, Nat.reduceLT, Nat.reduceLeDiff, Nat.reduceBEq, Nat.reduceLeDiff, reduceCtorEq, Int.reduceLT, Int.reduceLE, Int.reduceAdd, Int.reduceSub, Int.reduceToNat, Int.reduceNeg, Int.toNat_natCast, beq_self_eq_true, wrap64, Nat.zero_add, Nat.add_zero, St.loadN_other, St.cell_other, hbc]
  · simp (disch := omega) only [go_sem, ↓reduceIte, Nat.reduceEqDiff, Nat.reduceAdd, Nat.reduceMul, Nat.reduceSub, Nat.reduceLT, Nat.reduceLeDiff, Nat.reduceBEq, Nat.reduceLeDiff, reduceCtorEq, Int.reduceLT, Int.reduceLE, Int.reduceAdd, Int.reduceSub, Int.reduceToNat, Int.reduceNeg, Int.toNat_natCast, beq_self_eq_true, wrap64, Nat.zero_add, Nat.add_zero, St.loadN_other, St.cell_other, lx7, ly7, eqV_dot, hab]
    refine wJ_of F.dots_Less.J ?_
    rintro _ S8 ⟨rfl, he8⟩
    have he18 := he17.trans he8
    have lx8 : S8.loadN ⟨x, 0, none⟩ 2 = _ := (he18.loadN (by omega) 0 2).trans lx
    have ly8 : S8.loadN ⟨y, 0, none⟩ 2 = _ := (he18.loadN (by omega) 0 2).trans ly
    by_cases hba : lessP b a
    · have hne : a ≠ b := by intro e; subst e; exact lessP_irrefl _ hba
      simp (disch := omega) only [go_sem, ↓reduceIte, Nat.reduceEqDiff, Nat.reduceAdd, Nat.reduceMul, Nat.reduceSub, Nat.reduceLT, Nat.reduceLeDiff, Nat.reduceBEq, Nat.reduceLeDiff, reduceCtorEq, Int.reduceLT, Int.reduceLE, Int.reduceAdd, Int.reduceSub, Int.reduceToNat, Int.reduceNeg, Int.toNat_natCast, beq_self_eq_true, wrap64, Nat.zero_add, Nat.add_zero, St.loadN_other, St.cell_other, lx8, ly8, eqV_dot, hba, hne]
      trace_state
    · have heq := lessP_total hab hba
      subst heq
      simp (disch := omega) only [go_sem, ↓reduceIte, Nat.reduceEqDiff, Nat.reduceAdd, Nat.reduceMul, Nat.reduceSub, Nat.reduceLT, Nat.reduceLeDiff, Nat.reduceBEq, Nat.reduceLeDiff, reduceCtorEq, Int.reduceLT, Int.reduceLE, Int.reduceAdd, Int.reduceSub, Int.reduceToNat, Int.reduceNeg, Int.toNat_natCast, beq_self_eq_true, wrap64, Nat.zero_add, Nat.add_zero, St.loadN_other, St.cell_other, lx8, ly8, eqV_dot, hba]
      trace_state
end Go.Osj

/- The law DotsRises. -/
import Derived.Test.YtnofakkcipcphaaF
set_option linter.unusedSimpArgs false
namespace Go.Osj
theorem risen_get_lt {xs : List Dot} {i : Nat} (h : i + 1 < (risen xs).length) : lessP ((risen xs)[i]) ((risen xs)[i + 1]) :=
  List.pairwise_iff_getElem.1 (risen_ris xs).1 i (i + 1) (by omega) h (by omega)
theorem F.osierlaw03_DotsRises.J {S : St} {l : Value} {xs : List Dot} (hl : SlT dotE S l xs) : J PR F.osierlaw03_DotsRises [l] S fun v _ => v = .bool true := by
  obtain ⟨base, cap, rfl⟩ := hl.len dotE
  refine J_by PR.mixed F.osierlaw03_DotsRises.ok (by simp) ?_
  simp (disch := omega) only [go_sem, ↓reduceIte, Nat.reduceEqDiff, Nat.reduceAdd, Nat.reduceMul, Nat.reduceSub, Nat.reduceLT, Nat.reduceLeDiff, Nat.reduceBEq, Nat.reduceLeDiff, reduceCtorEq, Int.reduceLT, Int.reduceLE, Int.reduceAdd, Int.reduceSub, Int.reduceToNat, Int.reduceNeg, Int.toNat_natCast, beq_self_eq_true, wrap64, Nat.zero_add, Nat.add_zero, St.loadN_other, St.cell_other]
  refine wJ_of F.osierlaw03_awake.J ?_
  rintro _ S1 ⟨rfl, he1⟩
  simp (disch := omega) only [go_sem, ↓reduceIte, Nat.reduceEqDiff, Nat.reduceAdd, Nat.reduceMul, Nat.reduceSub, Nat.reduceLT, Nat.reduceLeDiff, Nat.reduceBEq, Nat.reduceLeDiff, reduceCtorEq, Int.reduceLT, Int.reduceLE, Int.reduceAdd, Int.reduceSub, Int.reduceToNat, Int.reduceNeg, Int.toNat_natCast, beq_self_eq_true, wrap64, Nat.zero_add, Nat.add_zero, St.loadN_other, St.cell_other]
  refine wcond_dec (fun h => ?_) (fun h => ?_)
  · simp (disch := omega) only [go_sem, ↓reduceIte, Nat.reduceEqDiff, Nat.reduceAdd, Nat.reduceMul, Nat.reduceSub, Nat.reduceLT, Nat.reduceLeDiff, Nat.reduceBEq, Nat.reduceLeDiff, reduceCtorEq, Int.reduceLT, Int.reduceLE, Int.reduceAdd, Int.reduceSub, Int.reduceToNat, Int.reduceNeg, Int.toNat_natCast, beq_self_eq_true, wrap64, Nat.zero_add, Nat.add_zero, St.loadN_other, St.cell_other]
  · have hL : xs.length ≤ 200 := by omega
    have hr := risen_len xs
    simp (disch := omega) only [go_sem, ↓reduceIte, Nat.reduceEqDiff, Nat.reduceAdd, Nat.reduceMul, Nat.reduceSub, Nat.reduceLT, Nat.reduceLeDiff, Nat.reduceBEq, Nat.reduceLeDiff, reduceCtorEq, Int.reduceLT, Int.reduceLE, Int.reduceAdd, Int.reduceSub, Int.reduceToNat, Int.reduceNeg, Int.toNat_natCast, beq_self_eq_true, wrap64, Nat.zero_add, Nat.add_zero, St.loadN_other, St.cell_other]
    refine wJ_of (F.dots_Rising.J (hl.ext dotE he1) (by omega)) ?_
    rintro v S2 ⟨ho, he2⟩
    have hl2 := hl.ext dotE (he1.trans he2)
    obtain ⟨bv, cv, rfl⟩ := (ho.sl dotE).len dotE
    simp (disch := omega) only [go_sem, ↓reduceIte, Nat.reduceEqDiff, Nat.reduceAdd, Nat.reduceMul, Nat.reduceSub, Nat.reduceLT, Nat.reduceLeDiff, Nat.reduceBEq, Nat.reduceLeDiff, reduceCtorEq, Int.reduceLT, Int.reduceLE, Int.reduceAdd, Int.reduceSub, Int.reduceToNat, Int.reduceNeg, Int.toNat_natCast, beq_self_eq_true, wrap64, Nat.zero_add, Nat.add_zero, St.loadN_other, St.cell_other]
    refine wC_loop (fun n fr S' => ∃ i, n = (risen xs).length - i ∧ i ≤ (risen xs).length ∧ fr 0 = .slice base xs.length cap ∧ fr 4 = .slice bv (risen xs).length cv ∧ fr 5 = .int .i64 (i : Nat) ∧ S2.Ext S') (risen xs).length ⟨0, by simp (disch := omega) only [go_sem, ↓reduceIte, Nat.reduceEqDiff, Nat.reduceAdd, Nat.reduceMul, Nat.reduceSub, Nat.reduceLT, Nat.reduceLeDiff, Nat.reduceBEq, Nat.reduceLeDiff, reduceCtorEq, Int.reduceLT, Int.reduceLE, Int.reduceAdd, Int.reduceSub, Int.reduceToNat, Int.reduceNeg, Int.toNat_natCast, beq_self_eq_true, wrap64, Nat.zero_add, Nat.add_zero, St.loadN_other, St.cell_other]; exact ⟨by simp, by simp, St.Ext.refl _⟩⟩ ?_
    rintro n fr S3 ⟨i, rfl, hi, h0, h4, h5, he3⟩
    simp (disch := omega) only [go_sem, ↓reduceIte, Nat.reduceEqDiff, Nat.reduceAdd, Nat.reduceMul, Nat.reduceSub, Nat.reduceLT, Nat.reduceLeDiff, Nat.reduceBEq, Nat.reduceLeDiff, reduceCtorEq, Int.reduceLT, Int.reduceLE, Int.reduceAdd, Int.reduceSub, Int.reduceToNat, Int.reduceNeg, Int.toNat_natCast, beq_self_eq_true, wrap64, Nat.zero_add, Nat.add_zero, St.loadN_other, St.cell_other, F.osierlaw03_DotsRises.l0, h0, h4, h5]
    refine wcond_dec (fun hlt => ?_) (fun hge => ?_)
    · have hlr : i < (risen xs).length := by omega
      obtain ⟨b, off, rfl, hb, hx⟩ := ((ho.sl dotE).ext dotE he3).dot hlr
      have c1 : (0 : Int) ≤ (i : Int) ∧ (i : Int) < ((risen xs).length : Int) := by omega
      simp (disch := omega) only [go_sem, ↓reduceIte, Nat.reduceEqDiff, Nat.reduceAdd, Nat.reduceMul, Nat.reduceSub, Nat.reduceLT, Nat.reduceLeDiff, Nat.reduceBEq, Nat.reduceLeDiff, reduceCtorEq, Int.reduceLT, Int.reduceLE, Int.reduceAdd, Int.reduceSub, Int.reduceToNat, Int.reduceNeg, Int.toNat_natCast, beq_self_eq_true, wrap64, Nat.zero_add, Nat.add_zero, St.loadN_other, St.cell_other, h0, h4, h5]
      have hin : (risen xs)[i] ∈ xs := ((risen_ris xs).2 _).1 (List.getElem_mem hlr)
      refine wguard_dec (fun hp => ?_) (fun hp => ?_)
      · obtain ⟨j, rfl⟩ : ∃ j, i = j + 1 := ⟨i - 1, by omega⟩
        have hj : j < (risen xs).length := by omega
        obtain ⟨b', off', hbb, hb', hx'⟩ := ((ho.sl dotE).ext dotE he3).dot hj
        simp only [Option.some.injEq, Addr.mk.injEq, and_true] at hbb
        obtain ⟨rfl, rfl⟩ := hbb
        have e1 : ((j + 1 : Nat) : Int) - 1 = (j : Int) := by omega
        have c2 : (0 : Int) ≤ (j : Int) ∧ (j : Int) < ((risen xs).length : Int) := by omega
        simp (disch := omega) only [go_sem, ↓reduceIte, Nat.reduceEqDiff, Nat.reduceAdd, Nat.reduceMul, Nat.reduceSub, Nat.reduceLT, Nat.reduceLeDiff, Nat.reduceBEq, Nat.reduceLeDiff, reduceCtorEq, Int.reduceLT, Int.reduceLE, Int.reduceAdd, Int.reduceSub, Int.reduceToNat, Int.reduceNeg, Int.toNat_natCast, beq_self_eq_true, wrap64, Nat.zero_add, Nat.add_zero, St.loadN_other, St.cell_other, h0, h4, h5, hp, c1, e1, c2, hx, hx']
        refine wJ_of F.dots_Less.J ?_
        rintro _ S4 ⟨rfl, he4⟩
        have hlt2 : lessP ((risen xs)[j].1, (risen xs)[j].2) ((risen xs)[j + 1].1, (risen xs)[j + 1].2) := risen_get_lt hlr
        have hx4 := (he4.loadN hb (off + (j + 1) * 2) 2).trans hx
        simp (disch := omega) only [go_sem, ↓reduceIte, Nat.reduceEqDiff, Nat.reduceAdd, Nat.reduceMul, Nat.reduceSub, Nat.reduceLT, Nat.reduceLeDiff, Nat.reduceBEq, Nat.reduceLeDiff, reduceCtorEq, Int.reduceLT, Int.reduceLE, Int.reduceAdd, Int.reduceSub, Int.reduceToNat, Int.reduceNeg, Int.toNat_natCast, beq_self_eq_true, wrap64, Nat.zero_add, Nat.add_zero, St.loadN_other, St.cell_other, h0, h4, h5, c1, hlt2, hx4]
        refine wJ_of (F.osierref03_In.J (hl2.ext dotE (he3.trans he4)) (by omega)) ?_
        rintro _ S5 ⟨rfl, he5⟩
        simp (disch := omega) only [go_sem, ↓reduceIte, Nat.reduceEqDiff, Nat.reduceAdd, Nat.reduceMul, Nat.reduceSub, Nat.reduceLT, Nat.reduceLeDiff, Nat.reduceBEq, Nat.reduceLeDiff, reduceCtorEq, Int.reduceLT, Int.reduceLE, Int.reduceAdd, Int.reduceSub, Int.reduceToNat, Int.reduceNeg, Int.toNat_natCast, beq_self_eq_true, wrap64, Nat.zero_add, Nat.add_zero, St.loadN_other, St.cell_other, h0, h4, h5, hin]
        exact ⟨(risen xs).length - (j + 1 + 1), by omega, j + 1 + 1, rfl, by omega, rfl, (he3.trans he4).trans he5⟩
      · have hi0 : i = 0 := by omega
        simp (disch := omega) only [go_sem, ↓reduceIte, Nat.reduceEqDiff, Nat.reduceAdd, Nat.reduceMul, Nat.reduceSub, Nat.reduceLT, Nat.reduceLeDiff, Nat.reduceBEq, Nat.reduceLeDiff, reduceCtorEq, Int.reduceLT, Int.reduceLE, Int.reduceAdd, Int.reduceSub, Int.reduceToNat, Int.reduceNeg, Int.toNat_natCast, beq_self_eq_true, wrap64, Nat.zero_add, Nat.add_zero, St.loadN_other, St.cell_other, h0, h4, h5, hp, c1, hx]
        refine wJ_of (F.osierref03_In.J (hl2.ext dotE he3) (by omega)) ?_
        rintro _ S5 ⟨rfl, he5⟩
        simp (disch := omega) only [go_sem, ↓reduceIte, Nat.reduceEqDiff, Nat.reduceAdd, Nat.reduceMul, Nat.reduceSub, Nat.reduceLT, Nat.reduceLeDiff, Nat.reduceBEq, Nat.reduceLeDiff, reduceCtorEq, Int.reduceLT, Int.reduceLE, Int.reduceAdd, Int.reduceSub, Int.reduceToNat, Int.reduceNeg, Int.toNat_natCast, beq_self_eq_true, wrap64, Nat.zero_add, Nat.add_zero, St.loadN_other, St.cell_other, h0, h4, h5, hin]
        exact ⟨(risen xs).length - (i + 1), by omega, i + 1, rfl, by omega, rfl, he3.trans he5⟩
    · simp (disch := omega) only [go_sem, ↓reduceIte, Nat.reduceEqDiff, Nat.reduceAdd, Nat.reduceMul, Nat.reduceSub, Nat.reduceLT, Nat.reduceLeDiff, Nat.reduceBEq, Nat.reduceLeDiff, reduceCtorEq, Int.reduceLT, Int.reduceLE, Int.reduceAdd, Int.reduceSub, Int.reduceToNat, Int.reduceNeg, Int.toNat_natCast, beq_self_eq_true, wrap64, Nat.zero_add, Nat.add_zero, St.loadN_other, St.cell_other, h0, h4]
      refine wC_loop (fun n fr S' => ∃ i, n = xs.length - i ∧ i ≤ xs.length ∧ fr 0 = .slice base xs.length cap ∧ fr 4 = .slice bv (risen xs).length cv ∧ fr 6 = .int .i64 (i : Nat) ∧ S2.Ext S') xs.length ⟨0, by simp (disch := omega) only [go_sem, ↓reduceIte, Nat.reduceEqDiff, Nat.reduceAdd, Nat.reduceMul, Nat.reduceSub, Nat.reduceLT, Nat.reduceLeDiff, Nat.reduceBEq, Nat.reduceLeDiff, reduceCtorEq, Int.reduceLT, Int.reduceLE, Int.reduceAdd, Int.reduceSub, Int.reduceToNat, Int.reduceNeg, Int.toNat_natCast, beq_self_eq_true, wrap64, Nat.zero_add, Nat.add_zero, St.loadN_other, St.cell_other, h0, h4]; exact ⟨by simp, by simp, he3⟩⟩ ?_
      rintro n fr S4 ⟨i, rfl, hi, h0, h4, h6, he4⟩
      simp (disch := omega) only [go_sem, ↓reduceIte, Nat.reduceEqDiff, Nat.reduceAdd, Nat.reduceMul, Nat.reduceSub, Nat.reduceLT, Nat.reduceLeDiff, Nat.reduceBEq, Nat.reduceLeDiff, reduceCtorEq, Int.reduceLT, Int.reduceLE, Int.reduceAdd, Int.reduceSub, Int.reduceToNat, Int.reduceNeg, Int.toNat_natCast, beq_self_eq_true, wrap64, Nat.zero_add, Nat.add_zero, St.loadN_other, St.cell_other, F.osierlaw03_DotsRises.l1, h0, h4, h6]
      refine wcond_dec (fun hlt => ?_) (fun hge => ?_)
      · have hlx : i < xs.length := by omega
        obtain ⟨b, off, rfl, hb, hx⟩ := (hl2.ext dotE he4).dot hlx
        have c1 : (0 : Int) ≤ (i : Int) ∧ (i : Int) < (xs.length : Int) := by omega
        have hin : xs[i] ∈ risen xs := ((risen_ris xs).2 _).2 (List.getElem_mem hlx)
        simp (disch := omega) only [go_sem, ↓reduceIte, Nat.reduceEqDiff, Nat.reduceAdd, Nat.reduceMul, Nat.reduceSub, Nat.reduceLT, Nat.reduceLeDiff, Nat.reduceBEq, Nat.reduceLeDiff, reduceCtorEq, Int.reduceLT, Int.reduceLE, Int.reduceAdd, Int.reduceSub, Int.reduceToNat, Int.reduceNeg, Int.toNat_natCast, beq_self_eq_true, wrap64, Nat.zero_add, Nat.add_zero, St.loadN_other, St.cell_other, h0, h4, h6, c1, hx]
        refine wJ_of (F.osierref03_In.J ((ho.sl dotE).ext dotE he4) (by omega)) ?_
        rintro _ S5 ⟨rfl, he5⟩
        simp (disch := omega) only [go_sem, ↓reduceIte, Nat.reduceEqDiff, Nat.reduceAdd, Nat.reduceMul, Nat.reduceSub, Nat.reduceLT, Nat.reduceLeDiff, Nat.reduceBEq, Nat.reduceLeDiff, reduceCtorEq, Int.reduceLT, Int.reduceLE, Int.reduceAdd, Int.reduceSub, Int.reduceToNat, Int.reduceNeg, Int.toNat_natCast, beq_self_eq_true, wrap64, Nat.zero_add, Nat.add_zero, St.loadN_other, St.cell_other, h0, h4, h6, hin]
        exact ⟨xs.length - (i + 1), by omega, i + 1, rfl, by omega, rfl, he4.trans he5⟩
      · simp (disch := omega) only [go_sem, ↓reduceIte, Nat.reduceEqDiff, Nat.reduceAdd, Nat.reduceMul, Nat.reduceSub, Nat.reduceLT, Nat.reduceLeDiff, Nat.reduceBEq, Nat.reduceLeDiff, reduceCtorEq, Int.reduceLT, Int.reduceLE, Int.reduceAdd, Int.reduceSub, Int.reduceToNat, Int.reduceNeg, Int.toNat_natCast, beq_self_eq_true, wrap64, Nat.zero_add, Nat.add_zero, St.loadN_other, St.cell_other, h0, h4]
        refine wJ_of (F.dots_Rising.J ((ho.sl dotE).ext dotE he4) (by omega)) ?_
        rintro v5 S5 ⟨ho5, he5⟩
        simp (disch := omega) only [go_sem, ↓reduceIte, Nat.reduceEqDiff, Nat.reduceAdd, Nat.reduceMul, Nat.reduceSub, Nat.reduceLT, Nat.reduceLeDiff, Nat.reduceBEq, Nat.reduceLeDiff, reduceCtorEq, Int.reduceLT, Int.reduceLE, Int.reduceAdd, Int.reduceSub, Int.reduceToNat, Int.reduceNeg, Int.toNat_natCast, beq_self_eq_true, wrap64, Nat.zero_add, Nat.add_zero, St.loadN_other, St.cell_other, h0, h4]
        have hrr : risen (risen xs) = risen xs := risen_congr (risen_ris xs).2
        refine wJ_of (F.osierref03_Same.J (ho5.sl dotE) ((ho.sl dotE).ext dotE (he4.trans he5)) (by rw [hrr]; omega)) ?_
        rintro _ S6 ⟨rfl, rfl⟩
        simp (disch := omega) only [go_sem, ↓reduceIte, Nat.reduceEqDiff, Nat.reduceAdd, Nat.reduceMul, Nat.reduceSub, Nat.reduceLT, Nat.reduceLeDiff, Nat.reduceBEq, Nat.reduceLeDiff, reduceCtorEq, Int.reduceLT, Int.reduceLE, Int.reduceAdd, Int.reduceSub, Int.reduceToNat, Int.reduceNeg, Int.toNat_natCast, beq_self_eq_true, wrap64, Nat.zero_add, Nat.add_zero, St.loadN_other, St.cell_other, h0, h4, hrr]
        refine wJ_of (F.dots_Minus.J (hl2.ext dotE (he4.trans he5)) ((ho.sl dotE).ext dotE (he4.trans he5)) (by omega) (by omega)) ?_
        rintro v7 S7 ⟨ho7, he7⟩
        have hmin : xs.filter (fun d => decide (d ∉ risen xs)) = [] := by
          rw [List.filter_eq_nil_iff]
          intro d hd
          simp [(risen_ris xs).2 d, hd]
        rw [hmin] at ho7
        obtain ⟨b7, c7, rfl⟩ := (ho7.sl dotE).len dotE
        have hz : (risen []).length = 0 := rfl
        simp (disch := omega) only [go_sem, ↓reduceIte, Nat.reduceEqDiff, Nat.reduceAdd, Nat.reduceMul, Nat.reduceSub, Nat.reduceLT, Nat.reduceLeDiff, Nat.reduceBEq, Nat.reduceLeDiff, reduceCtorEq, Int.reduceLT, Int.reduceLE, Int.reduceAdd, Int.reduceSub, Int.reduceToNat, Int.reduceNeg, Int.toNat_natCast, beq_self_eq_true, wrap64, Nat.zero_add, Nat.add_zero, St.loadN_other, St.cell_other, hz]
        trace_state
end Go.Osj
